/- The texts Tier, Tier2, Tier3, Tier4, Tier5, Tier6, Tier7 in one. -/
import Derived.Test.YtgiegkacilfofabDoorTierV
import Derived.Test.YtgiegkacilfofabDoorTierMap
import Derived.Test.YtgiegkacilfofabDoorProf
import Derived.Test.YtgiegkacilfofabDoorTFns
import Derived.Test.YtgiegkacilfofabDoorChan
import Derived.Test.YtgiegkacilfofabDoorTClone
import Derived.Deep.AppendLies
import Derived.Test.YtgiegkacilfofabDoorOrd
import Derived.Laws.CopyRow
import Derived.Test.YtgiegkacilfofabDoorFoldLe
import Derived.Deep.CutBlock
import Derived.OwnWalk
import Derived.BigQuiet
import Derived.Deep.QuietTactic
namespace Go.Proofs.YtgiegkacilfofabDoor
set_option linter.unusedVariables false
set_option linter.unusedSimpArgs false
open Go.RowKit Go.Conc

/-- a row of truth values -/
def BoolRow (w : World) (V : Value) (l : List Bool) : Prop :=
  ∃ A c, V = .slice A l.length c ∧ l.length ≤ c ∧ c ≤ maxLen ∧ (0 < l.length → ∃ b off, A = some ⟨b, off, none⟩ ∧ ∀ i x, l[i]? = some x → w.cell? ⟨b, off + i, none⟩ = some (.bool x))
/-- which parameters are public -/
def PubIs (w : World) (V : Value) (pub : List (List Bool)) : Prop :=
  ∃ A c, V = .slice A pub.length c ∧ pub.length ≤ c ∧ c ≤ maxLen ∧ (0 < pub.length → ∃ b off, A = some ⟨b, off, none⟩ ∧ ∀ j l, pub[j]? = some l → ∃ V2, w.cell? ⟨b, off + j, none⟩ = some V2 ∧ BoolRow w V2 l)
def evCells (l : List (Int × Int)) : List Value := l.flatMap fun e => [.int .i64 e.1, .int .i64 e.2]
theorem evCells_length (l : List (Int × Int)) : (evCells l).length = l.length * 2 := by
  induction l with
  | nil => rfl
  | cons x l ih => show ([Value.int .i64 x.1, .int .i64 x.2] ++ evCells l).length = _; rw [List.length_append, ih, List.length_cons]; simp; omega
theorem evCells_append (a b : List (Int × Int)) : evCells (a ++ b) = evCells a ++ evCells b := List.flatMap_append
theorem evCells_one (l : List (Int × Int)) : ∀ u ∈ evCells l, u.oneCell' = true := fun u hu => by
  unfold evCells at hu
  obtain ⟨x, _, hx⟩ := List.mem_flatMap.1 hu
  simp only [List.mem_cons, List.not_mem_nil, or_false] at hx
  rcases hx with rfl | rfl <;> rfl

/-- a manager's addresses -/
structure TAdr where
  c : Nat
  p : Nat
  g : Nat
  mp : Nat
  ch : Nat
  cp : Nat
  Vc : Value
  Vp : Value
/-- a manager at m: its blocks have a mark (0: not its own) -/
structure TC (w : World) (tag : Nat → Nat) (m : Nat) (cap : Int) (np : Nat) (x : TAdr) (T : TS) : Prop where
  lt : ∀ k, tag k ≠ 0 → k < w.heap.size
  box : tag m = 1 ∧ ∃ Ve, w.heap[m]? = some (.cells #[.pointer (some ⟨x.c, 0, none⟩), x.Vc, x.Vp, .chan (some x.ch), .pointer (some ⟨x.p, 0, none⟩), .map (some x.mp), Ve] 55 (0, 0)) ∧ w.ownsRow 0 41 2 Ve T.evs.length (evCells T.evs) ∧ ∀ k, Ve.ownBlock = some k → tag k = 7
  cache : ∃ n, n ≤ np ∧ CacheIs w (fun k => tag k = 2) x.c cap n T.cache
  fns : ∀ w', Chg (fun k => tag k ≠ 3) w w' → FnsIs w' x.Vc T.fs ∧ PubIs w' x.Vp T.pub
  prof : 0 < T.fs.length → tag x.p = 4 ∧ tag x.g = 4 ∧ ∃ vals, ProfIs w x.p x.g T.fs.length (fun j => (parV (T.f j) : Int)) vals
  map : tag x.mp = 5 ∧ ∃ n, n ≤ np ∧ GMap w x.mp n T.gd
  chan : tag x.ch = 6 ∧ ∃ s r, w.heap[x.ch]? = some (.chan x.cp (nums T.picks).toArray false s r false)
  small : T.fs.length ≤ 1048576 ∧ (∀ f ∈ T.fs, f.l.length ≤ 1048576 ∧ ∀ y ∈ f.l, Full y) ∧ T.evs.length ≤ np
  picks : ∀ z ∈ T.picks, In64 z

theorem TC.fnsNow {w : World} {tag : Nat → Nat} {m : Nat} {cap : Int} {np : Nat} {x : TAdr} {T : TS} (h : TC w tag m cap np x T) : FnsIs w x.Vc T.fs ∧ PubIs w x.Vp T.pub := h.fns w (Chg.refl _ _)
theorem TC.capok {w : World} {tag : Nat → Nat} {m : Nat} {cap : Int} {np : Nat} {x : TAdr} {T : TS} (h : TC w tag m cap np x T) : 1 ≤ cap ∧ cap ≤ 32 ∧ (T.cache.length : Int) ≤ cap := (by obtain ⟨n, _, hc⟩ := h.cache; exact hc.capok)
/-- what is done elsewhere does not matter -/
theorem TC.kept {w w' : World} {tag : Nat → Nat} {m : Nat} {cap : Int} {np : Nat} {x : TAdr} {T : TS} {S : Nat → Prop} (h : TC w tag m cap np x T) (hc : Chg S w w') (hS : ∀ k, tag k ≠ 0 → ¬ S k) : TC w' tag m cap np x T := by
  obtain ⟨h1, ⟨h2, Ve, h3, h4, h5⟩, ⟨nc, hnc, h6⟩, h7, h8, ⟨h9, nm, hnm, h10⟩, ⟨h11, s, r, h12⟩, h14, h15⟩ := h
  refine ⟨fun k hk => Nat.lt_of_lt_of_le (h1 k hk) hc.size, ⟨h2, Ve, hc.heap h3 (hS _ (by rw [h2]; decide)), ownsRow_kept h4 hc (fun k hk => hS _ (by rw [h5 k hk]; decide)), h5⟩, ⟨nc, hnc, h6.kept hc (fun k hk => hS _ (by have hk : tag k = 2 := hk; rw [hk]; decide))⟩, fun w2 h2 => h7 w2 ((hc.mono (T := fun k => tag k ≠ 3) (fun k _ hk e => hS k (by have e : tag k = 3 := e; omega) hk)).then h2), fun hp => ?_, ⟨h9, nm, hnm, ?_⟩, ⟨h11, s, r, hc.heap h12 (hS _ (by rw [h11]; decide))⟩, h14, h15⟩
  · obtain ⟨a, b, vals, hv⟩ := h8 hp
    exact ⟨a, b, vals, hv.kept hc (hS _ (by rw [a]; decide)) (hS _ (by rw [b]; decide))⟩
  · unfold GMap
    exact GMapI.kept h10 hc (hS _ (by rw [h9]; decide))

set_option maxRecDepth 100000 in
theorem tparams_any {w : World} {tag : Nat → Nat} {m : Nat} {cap : Int} {np : Nat} {x : TAdr} {T : TS} (h : TC w tag m cap np x T) (fn : Nat) (hf : fn < T.fs.length) :
    Calls Tryd.prog 30 #[.pointer (some ⟨m, 0, none⟩), .int .i64 fn] w fun e w' => e = .returned (.int .i64 (parV (T.f fn))) ∧ w' = w := by
  obtain ⟨b, off, cp, A, c, e, _, hcp, ⟨_, c1, _⟩, _⟩ := h.fnsNow.1.get fn hf
  obtain ⟨_, Ve, hb, _⟩ := h.box
  have x1 := cell_of_block hb 1
  simp at x1
  rw [e] at x1
  have hn := h.small.1
  have hp : (parV (T.f fn) : Int) = min (max T.fs[fn].ps 0) 8 := by
    unfold parV TS.f
    rw [List.getD_eq_getElem?_getD, List.getElem?_eq_getElem hf]
    show (((min (max T.fs[fn].ps 0) 8).toNat : Nat) : Int) = _
    omega
  rw [hp]
  obtain ⟨ps, hps⟩ : ∃ z, z = T.fs[fn].ps := ⟨_, rfl⟩
  obtain ⟨n, hn2⟩ : ∃ z, z = T.fs.length := ⟨_, rfl⟩
  obtain ⟨q1, hq1⟩ : ∃ z, (if ps < 0 then 0 else ps) = z := ⟨_, rfl⟩
  obtain ⟨q2, hq2⟩ : ∃ z, (if 8 < q1 then 8 else q1) = z := ⟨_, rfl⟩
  rw [← hps] at c1 ⊢
  rw [← hn2] at x1 hn hcp hf
  have hq : min (max ps 0) 8 = q2 := by split at hq1 <;> split at hq2 <;> omega
  rw [hq]
  clear h hb e hp hps hn2 hq
  go_enter Tryd.func30, Tryd.ntmps30
  go_wp2
  go_ret
  exact ⟨rfl, rfl⟩

theorem openV_in {pub : List (List Bool)} {fn : Nat} (h : fn < pub.length) (i : Nat) : openV pub fn i = pub[fn].getD i false := by
  unfold openV
  rw [show pub.getD fn [] = pub[fn] from by rw [List.getD_eq_getElem?_getD, List.getElem?_eq_getElem h]; rfl]
theorem openV_out {pub : List (List Bool)} {fn : Nat} (h : pub.length ≤ fn) (i : Nat) : openV pub fn i = false := by
  unfold openV
  rw [show pub.getD fn [] = [] from by rw [List.getD_eq_getElem?_getD, List.getElem?_eq_none h]; rfl]
  rfl
set_option maxRecDepth 100000 in
theorem topen_any {w : World} {tag : Nat → Nat} {m : Nat} {cap : Int} {np : Nat} {x : TAdr} {T : TS} (h : TC w tag m cap np x T) (fn i : Nat) :
    Calls Tryd.prog 31 #[.pointer (some ⟨m, 0, none⟩), .int .i64 fn, .int .i64 i] w fun e w' => e = .returned (.bool (openV T.pub fn i)) ∧ w' = w := by
  obtain ⟨A, c, e, h1, h2, h3⟩ := h.fnsNow.2
  obtain ⟨_, Ve, hb, _⟩ := h.box
  have x2 := cell_of_block hb 2
  simp at x2
  rw [e] at x2
  clear h hb e
  have hn63 : T.pub.length ≤ 9223372036854775807 := by unfold maxLen at h2; omega
  by_cases hf : fn < T.pub.length
  · obtain ⟨b, off, rfl, hj⟩ := h3 (by omega)
    obtain ⟨V2, hc, B, d, rfl, g1, g2, g3⟩ := hj fn T.pub[fn] (List.getElem?_eq_getElem hf)
    have ho := openV_in hf i
    rw [ho]
    obtain ⟨l, hl⟩ : ∃ z, z = T.pub[fn] := ⟨_, rfl⟩
    obtain ⟨n, hn⟩ : ∃ z, z = T.pub.length := ⟨_, rfl⟩
    rw [← hl] at hc g1 g3 ⊢
    rw [← hn] at x2 hn63 h1 hf
    clear h3 hj ho hl hn
    have hl63 : l.length ≤ 9223372036854775807 := by unfold maxLen at g2; omega
    have t1 : decide ((fn : Int) < (n : Int)) = true := decide_eq_true (by omega)
    by_cases hi : i < l.length
    · obtain ⟨b2, o2, rfl, hx⟩ := g3 (by omega)
      have hc2 := hx i l[i] (List.getElem?_eq_getElem hi)
      have hv : l.getD i false = l[i] := by rw [List.getD_eq_getElem?_getD, List.getElem?_eq_getElem hi]; rfl
      rw [hv]
      obtain ⟨v, hvv⟩ : ∃ z, z = l[i] := ⟨_, rfl⟩
      obtain ⟨k, hk⟩ : ∃ z, z = l.length := ⟨_, rfl⟩
      rw [← hvv] at hc2 ⊢
      rw [← hk] at hc hl63 g1 hi
      have t2 : decide ((i : Int) < (k : Int)) = true := decide_eq_true (by omega)
      clear g3 hx hv hvv hk
      go_enter Tryd.func31, Tryd.ntmps31
      go_wp2
      go_ret
      exact ⟨rfl, rfl⟩
    · have hv : l.getD i false = false := by rw [List.getD_eq_getElem?_getD, List.getElem?_eq_none (by omega)]; rfl
      rw [hv]
      obtain ⟨k, hk⟩ : ∃ z, z = l.length := ⟨_, rfl⟩
      rw [← hk] at hc hl63 g1 hi
      have t2 : decide ((i : Int) < (k : Int)) = false := decide_eq_false (by omega)
      clear g3 hv hk
      go_enter Tryd.func31, Tryd.ntmps31
      go_wp2
      go_ret
      exact ⟨rfl, rfl⟩
  · have ho := openV_out (pub := T.pub) (fn := fn) (by omega) i
    rw [ho]
    obtain ⟨n, hn⟩ : ∃ z, z = T.pub.length := ⟨_, rfl⟩
    rw [← hn] at x2 hn63 h1 hf
    have t1 : decide ((fn : Int) < (n : Int)) = false := decide_eq_false (by omega)
    clear h3 ho hn
    go_enter Tryd.func31, Tryd.ntmps31
    go_wp2
    go_ret
    exact ⟨rfl, rfl⟩
end Go.Proofs.YtgiegkacilfofabDoor
namespace Go.Proofs.YtgiegkacilfofabDoor
set_option linter.unusedVariables false
set_option linter.unusedSimpArgs false
open Go.RowKit Go.Conc

/-- marks that have grown by new blocks -/
structure Ext (w w' : World) (tag tag' : Nat → Nat) : Prop where
  old : ∀ k, tag k ≠ 0 → tag' k = tag k
  new : ∀ k, tag' k ≠ 0 → tag k ≠ 0 ∨ w.heap.size ≤ k
theorem Ext.refl (w w' : World) (tag : Nat → Nat) : Ext w w' tag tag := ⟨fun _ _ => rfl, fun _ h => .inl h⟩
theorem Ext.trans {a b c : World} {t u v : Nat → Nat} (h : Ext a b t u) (k : Ext b c u v) (hs : a.heap.size ≤ b.heap.size) : Ext a c t v :=
  ⟨fun x hx => (k.old x (by rw [h.old x hx]; exact hx)).trans (h.old x hx), fun x hx => (k.new x hx).elim (fun y => h.new x y) (fun y => .inr (by omega))⟩
/-- a manager's own blocks, and new ones -/
abbrev Own (tag : Nat → Nat) : Nat → Prop := fun k => tag k ≠ 0
theorem chg_own {a b c : World} {t u : Nat → Nat} (h : Chg (Own t) a b) (k : Chg (Own u) b c) (e : Ext a b t u) : Chg (Own t) a c :=
  h.trans k (fun _ _ x => x) (fun i hi hu => (e.new i hu).elim id (fun hx => by omega))

section
variable {w : World} {tag : Nat → Nat} {m : Nat} {cap : Int} {np : Nat} {x : TAdr} {T : TS}
theorem TC.mono (h : TC w tag m cap np x T) {np' : Nat} (hn : np ≤ np') : TC w tag m cap np' x T := by
  obtain ⟨h1, h2, ⟨nc, hnc, h6⟩, h7, h8, ⟨h9, nm, hnm, h10⟩, h11, ⟨a, b, c⟩, h15⟩ := h
  exact ⟨h1, h2, ⟨nc, by omega, h6⟩, h7, h8, ⟨h9, nm, by omega, h10⟩, h11, ⟨a, b, by omega⟩, h15⟩
theorem TC.ne (h : TC w tag m cap np x T) : tag m = 1 ∧ tag x.mp = 5 ∧ tag x.ch = 6 := ⟨h.box.1, h.map.1, h.chan.1⟩

set_option maxRecDepth 100000 in
theorem note_any (h : TC w tag m cap np x T) (kind fn : Int) (hnp : np < 1048576) :
    Calls Tryd.prog 25 #[.pointer (some ⟨m, 0, none⟩), .int .i64 kind, .int .i64 fn] w fun e w' => e = .returned (.tuple #[]) ∧ ∃ tag', TC w' tag' m cap (np + 1) x { T with evs := T.evs ++ [(kind, fn)] } ∧ Ext w w' tag tag' ∧ Chg (Own tag) w w' := by
  obtain ⟨i0, hi, hz0, hz1, hz2⟩ := info_parts infoEv
  have h' := h
  obtain ⟨h1, ⟨h2, Ve, h3, h4, h5⟩, _, _, _, _, _, ⟨_, _, hle⟩, _⟩ := h'
  obtain ⟨_, A, c, rfl⟩ := ownsRow_slice h4
  obtain ⟨k, hk⟩ : ∃ k, k = T.evs.length := ⟨_, rfl⟩
  rw [← hk] at h3 h4 h5 hle
  have x6 := cell_of_block h3 6
  have f6 := frozen_of_block h3 6
  simp at x6
  obtain ⟨wx, hwx⟩ : ∃ z, z = w.alloc (.cells #[.int .i64 kind, .int .i64 fn] 41) := ⟨_, rfl⟩
  have hcx : Chg (fun _ => False) w wx := by rw [hwx]; exact (Chg.refl _ _).alloc _
  have HROW := Lib.hid (ownsRow_kept h4 hcx (fun _ _ x => x))
  have HNEW : Hid (∀ (i : Nat) u, ([.int .i64 kind, .int .i64 fn] : List Value)[i]? = some u → wx.cell? ((⟨w.heap.size, 0, none⟩ : Addr).add i) = some u) := Lib.hid (World.news_of_block (cs := #[.int .i64 kind, .int .i64 fn]) (t := 41) (fr := (0, 0)) (by rw [hwx]; exact heap_new _ _))
  have HSZ : Hid (wx.heap.size = w.heap.size + 1) := Lib.hid (by rw [hwx]; simp)
  have HC := Lib.hid hcx
  have HW := Lib.hid hwx
  have HH := Lib.hid h
  have H3 := Lib.hid (And.intro h3 (And.intro h5 hk))
  clear h1 h2 h3 h4 h5 hk hcx hwx h
  go_enter Tryd.func25, Tryd.ntmps25
  have hml := lt_of_heap H3.out.1
  have hm7 : tag m = 1 := HH.out.box.1
  go_wp2_with (at_builtin; rw [← HW.out]; refine wpList_append_lies _ rfl _ _ _ rfl 0 41 i0 _ 2 16 Tryd.underlying35 hi hz0 hz1 hz2 rfl (by omega) (.slice A k c) k (evCells T.evs) rfl HROW.out ⟨w.heap.size, 0, none⟩ 1 1 [.int .i64 kind, .int .i64 fn] rfl rfl HNEW.out (by simp [Value.oneCell']) (by omega) (by unfold maxLen; omega) (by omega) (by omega) (w.heap.size + 1) HSZ.out ?_; intro g5 cap5 w5 hown5 hgrow5 hat5 hlt5; have hbx5 := (Chg.of_grown hgrow5).heap (HC.out.heap H3.out.1 (fun x => x)) (fun e => by have h := H3.out.2.1 m e; omega); have HC5 := Lib.hid (And.intro hown5 (And.intro (Chg.of_grown hgrow5) (And.intro hat5 (And.intro hlt5 hbx5)))); clear x6 f6; have x6 := cell_of_block hbx5 6; have f6 := frozen_of_block hbx5 6; simp at x6; clear hown5 hgrow5 hat5 hlt5 hbx5)
  go_end0
  obtain ⟨wf, hwf⟩ : ∃ z, z = w5.setCell ⟨m, 6, none⟩ (.slice (some ⟨g5, 0, none⟩) (k + 1) cap5) := ⟨_, rfl⟩
  rw [← hwf]
  have hset : Chg (fun k => k = m) w5 wf := by rw [hwf]; exact Chg.set_cell (w := w5) ⟨m, 6, none⟩ _
  have hg5 : tag g5 = 7 ∨ w.heap.size ≤ g5 := by
    rcases HC5.out.2.2.1 with e | e
    · exact .inl (H3.out.2.1 g5 e)
    · right; omega
  have hgm : g5 ≠ m := fun e => by
    subst e
    rcases hg5 with h | h <;> omega
  have hgl := ownsRow_lt HC5.out.1 g5 rfl
  have hcw : Chg (fun k => tag k = 7 ∨ k = m) w wf := ((HC.out.mono (fun _ _ x => x.elim)).then (HC5.out.2.1.mono (fun i _ hk => .inl (H3.out.2.1 i hk)))).then (hset.mono (fun i _ hk => .inr hk))
  refine ⟨rfl, fun i => if i = g5 then 7 else tag i, ?_, ⟨fun i hi => ?_, fun i hi => ?_⟩, hcw.mono (fun i _ hk => ?_)⟩
  · obtain ⟨h1, ⟨h2, Ve, h3, h4, h5⟩, ⟨nc, hnc, h6⟩, h7, h8, ⟨h9, nm, hnm, h10⟩, ⟨h11, s, r, h12⟩, ⟨h14, h15, h16⟩, h17⟩ := HH.out
    have hne : ∀ i, tag i ≠ 0 → tag i ≠ 7 → i ≠ g5 := fun i hi hi7 e => by
      subst e
      rcases hg5 with h | h
      · exact hi7 h
      · have := h1 i hi; omega
    have htag : ∀ i, tag i ≠ 0 → tag i ≠ 7 → (if i = g5 then 7 else tag i) = tag i := fun i hi hi7 => if_neg (hne i hi hi7)
    have hsz : w.heap.size ≤ wf.heap.size := hcw.size
    have hmap : GMap wf x.mp nm T.gd := by
      unfold GMap
      exact GMapI.kept h10 hcw (fun e => by rcases e with e | e; (rw [h9] at e; cases e); (rw [e, h2] at h9; cases h9))
    refine ⟨fun i hi => ?_, ⟨by rw [htag m (by omega) (by omega)]; exact h2, _, by rw [hwf]; exact heap_set HC5.out.2.2.2.2 6 _, ?_, fun i hi => ?_⟩, ⟨nc, by omega, ?_⟩, fun w' hc' => h7 w' ?_, fun hp => ?_, ⟨by rw [htag _ (by omega) (by omega)]; exact h9, nm, by omega, hmap⟩, ⟨by rw [htag _ (by omega) (by omega)]; exact h11, s, r, hcw.heap h12 (fun e => by rcases e with e | e; (rw [h11] at e; cases e); (rw [e, h2] at h11; cases h11))⟩, ⟨h14, h15, by rw [List.length_append]; simp; omega⟩, h17⟩
    · by_cases e : i = g5
      · subst e; exact Nat.lt_of_lt_of_le hgl hset.size
      · rw [if_neg e] at hi
        exact Nat.lt_of_lt_of_le (h1 i hi) hsz
    · rw [evCells_append, List.length_append, ← H3.out.2.2]
      have h := ownsRow_kept HC5.out.1 hset (fun i hi e => by have hi : some g5 = some i := hi; injection hi with hi; have e : i = m := e; exact hgm (hi.trans e))
      exact h
    · have hi : some g5 = some i := hi
      injection hi with hi
      rw [if_pos hi.symm]
    · have h := h6.kept hcw (fun i hi e => by have hi : tag i = 2 := hi; rcases e with e | e; omega; (rw [e] at hi; omega))
      exact h.mono (fun i hi => by have hi : tag i = 2 := hi; show (if i = g5 then 7 else tag i) = 2; rw [htag i (by omega) (by omega)]; exact hi)
    · exact (hcw.mono (T := fun i => tag i ≠ 3) (fun i _ e h => by rcases e with e | e; omega; (rw [e] at h; omega))).then (hc'.mono (fun i _ e h => e (by rw [htag i (by omega) (by omega)]; exact h)))
    · obtain ⟨a, b, vals, hv⟩ := h8 hp
      exact ⟨by rw [htag _ (by omega) (by omega)]; exact a, by rw [htag _ (by omega) (by omega)]; exact b, vals, hv.kept hcw (fun e => by rcases e with e | e; omega; (rw [e] at a; omega)) (fun e => by rcases e with e | e; omega; (rw [e] at b; omega))⟩
  · by_cases e : i = g5
    · subst e
      rw [if_pos rfl]
      rcases hg5 with h | h
      · exact h.symm
      · have := HH.out.lt i hi; omega
    · rw [if_neg e]
  · by_cases e : i = g5
    · subst e
      rcases hg5 with h | h
      · left; omega
      · exact .inr h
    · rw [if_neg e] at hi
      exact .inl hi
  · rcases hk with h | h
    · show tag i ≠ 0; omega
    · show tag i ≠ 0; rw [h]; omega

/-- the guards are others -/
theorem TC.map_chg (h : TC w tag m cap np x T) {w' : World} (hc : Chg (fun k => k = x.mp) w w') {gd : Int → Option (Nat × Int)} {np' : Nat} (hn : np ≤ np') (hm : ∃ n, n ≤ np' ∧ GMap w' x.mp n gd) : TC w' tag m cap np' x { T with gd := gd } := by
  obtain ⟨h1, ⟨h2, Ve, h3, h4, h5⟩, ⟨nc, hnc, h6⟩, h7, h8, ⟨h9, nm, hnm, h10⟩, ⟨h11, s, r, h12⟩, ⟨h14, h15, h16⟩, h17⟩ := h
  have hne : ∀ k, tag k ≠ 5 → ¬ k = x.mp := fun k hk e => hk (by rw [e]; exact h9)
  refine ⟨fun k hk => Nat.lt_of_lt_of_le (h1 k hk) hc.size, ⟨h2, Ve, hc.heap h3 (hne _ (by omega)), ownsRow_kept h4 hc (fun k hk => hne _ (by rw [h5 k hk]; decide)), h5⟩, ⟨nc, by omega, h6.kept hc (fun k hk => hne _ (by have hk : tag k = 2 := hk; omega))⟩, fun w2 h2 => h7 w2 ((hc.mono (T := fun k => tag k ≠ 3) (fun k _ e h => by have e : k = x.mp := e; rw [e] at h; omega)).then h2), fun hp => ?_, ⟨h9, hm⟩, ⟨h11, s, r, hc.heap h12 (hne _ (by omega))⟩, ⟨h14, h15, by have h16 : T.evs.length ≤ np := h16; show T.evs.length ≤ np'; omega⟩, h17⟩
  obtain ⟨a, b, vals, hv⟩ := h8 hp
  exact ⟨a, b, vals, hv.kept hc (hne _ (by omega)) (hne _ (by omega))⟩
/-- the channel is another -/
theorem TC.chan_chg (h : TC w tag m cap np x T) {w' : World} (hc : Chg (fun k => k = x.ch) w w') {picks : List Int} (hp : ∀ z ∈ picks, In64 z) (hm : ∃ s r, w'.heap[x.ch]? = some (.chan x.cp (nums picks).toArray false s r false)) : TC w' tag m cap np x { T with picks := picks } := by
  obtain ⟨h1, ⟨h2, Ve, h3, h4, h5⟩, ⟨nc, hnc, h6⟩, h7, h8, ⟨h9, nm, hnm, h10⟩, ⟨h11, s, r, h12⟩, ⟨h14, h15, h16⟩, h17⟩ := h
  have hne : ∀ k, tag k ≠ 6 → ¬ k = x.ch := fun k hk e => hk (by rw [e]; exact h11)
  have hmap : GMap w' x.mp nm T.gd := by
    unfold GMap
    exact GMapI.kept h10 hc (hne _ (by omega))
  refine ⟨fun k hk => Nat.lt_of_lt_of_le (h1 k hk) hc.size, ⟨h2, Ve, hc.heap h3 (hne _ (by omega)), ownsRow_kept h4 hc (fun k hk => hne _ (by rw [h5 k hk]; decide)), h5⟩, ⟨nc, by omega, h6.kept hc (fun k hk => hne _ (by have hk : tag k = 2 := hk; omega))⟩, fun w2 h2 => h7 w2 ((hc.mono (T := fun k => tag k ≠ 3) (fun k _ e h => by have e : k = x.ch := e; rw [e] at h; omega)).then h2), fun hp => ?_, ⟨h9, nm, hnm, hmap⟩, ⟨h11, hm⟩, ⟨h14, h15, h16⟩, hp⟩
  obtain ⟨a, b, vals, hv⟩ := h8 hp
  exact ⟨a, b, vals, hv.kept hc (hne _ (by omega)) (hne _ (by omega))⟩
/-- the profile is another -/
theorem TC.prof_chg (h : TC w tag m cap np x T) {w' : World} (hc : Chg (fun k => k = x.g) w w') {vals : Nat → Nat → Int} (hg : tag x.g = 4) (hm : ProfIs w' x.p x.g T.fs.length (fun j => (parV (T.f j) : Int)) vals) : TC w' tag m cap np x T := by
  obtain ⟨h1, ⟨h2, Ve, h3, h4, h5⟩, ⟨nc, hnc, h6⟩, h7, h8, ⟨h9, nm, hnm, h10⟩, ⟨h11, s, r, h12⟩, ⟨h14, h15, h16⟩, h17⟩ := h
  have hne : ∀ k, tag k ≠ 4 → ¬ k = x.g := fun k hk e => hk (by rw [e]; exact hg)
  have hmap : GMap w' x.mp nm T.gd := by
    unfold GMap
    exact GMapI.kept h10 hc (hne _ (by omega))
  exact ⟨fun k hk => Nat.lt_of_lt_of_le (h1 k hk) hc.size, ⟨h2, Ve, hc.heap h3 (hne _ (by omega)), ownsRow_kept h4 hc (fun k hk => hne _ (by rw [h5 k hk]; decide)), h5⟩, ⟨nc, by omega, h6.kept hc (fun k hk => hne _ (by have hk : tag k = 2 := hk; omega))⟩, fun w2 h2 => h7 w2 ((hc.mono (T := fun k => tag k ≠ 3) (fun k _ e h => by have e : k = x.g := e; rw [e] at h; omega)).then h2), fun hp => ⟨(h8 hp).1, hg, vals, hm⟩, ⟨h9, nm, hnm, hmap⟩, ⟨h11, s, r, hc.heap h12 (hne _ (by omega))⟩, ⟨h14, h15, h16⟩, h17⟩
/-- the cache is another -/
theorem TC.cache_chg (h : TC w tag m cap np x T) {w' : World} (hc : Chg (fun k => tag k = 2) w w') {l : List (Int × List InsR)} {np' : Nat} (hn : np ≤ np') (hm : ∃ n, n ≤ np' ∧ CacheIs w' (fun k => tag k = 2 ∨ w.heap.size ≤ k) x.c cap n l) :
    ∃ tag', TC w' tag' m cap np' x { T with cache := l } ∧ Ext w w' tag tag' := by
  obtain ⟨h1, ⟨h2, Ve, h3, h4, h5⟩, ⟨nc, hnc, h6⟩, h7, h8, ⟨h9, nm, hnm, h10⟩, ⟨h11, s, r, h12⟩, ⟨h14, h15, h16⟩, h17⟩ := h
  obtain ⟨n, hn', hm⟩ := hm
  have hne : ∀ k, tag k ≠ 2 → ¬ tag k = 2 := fun k hk => hk
  have hmap : GMap w' x.mp nm T.gd := by
    unfold GMap
    exact GMapI.kept h10 hc (hne _ (by omega))
  obtain ⟨tg, htg⟩ : ∃ tg : Nat → Nat, tg = fun k => if w.heap.size ≤ k ∧ k < w'.heap.size then 2 else tag k := ⟨_, rfl⟩
  have hold : ∀ k, tag k ≠ 0 → tg k = tag k := fun k hk => by
    have := h1 k hk
    rw [htg]
    exact if_neg (by omega)
  refine ⟨tg, ⟨fun k hk => ?_, ⟨by rw [hold _ (by omega)]; exact h2, Ve, hc.heap h3 (hne _ (by omega)), ownsRow_kept h4 hc (fun k hk => hne _ (by rw [h5 k hk]; decide)), fun k hk => by rw [hold _ (by rw [h5 k hk]; decide)]; exact h5 k hk⟩, ⟨n, hn', ?_⟩, fun w2 h2 => h7 w2 ?_, fun hp => ?_, ⟨by rw [hold _ (by omega)]; exact h9, nm, by omega, hmap⟩, ⟨by rw [hold _ (by omega)]; exact h11, s, r, hc.heap h12 (hne _ (by omega))⟩, ⟨h14, h15, by show T.evs.length ≤ np'; omega⟩, h17⟩, ⟨fun k hk => hold k hk, fun k hk => ?_⟩⟩
  · rw [htg] at hk
    by_cases e : w.heap.size ≤ k ∧ k < w'.heap.size
    · exact e.2
    · have hk : (if w.heap.size ≤ k ∧ k < w'.heap.size then 2 else tag k) ≠ 0 := hk
      rw [if_neg e] at hk
      exact Nat.lt_of_lt_of_le (h1 k hk) hc.size
  · refine hm.bound.mono (fun k hk => ?_)
    show tg k = 2
    rw [htg]
    rcases hk.1 with hk1 | hk1
    · have := h1 k (by omega)
      show (if w.heap.size ≤ k ∧ k < w'.heap.size then 2 else tag k) = 2
      rw [if_neg (by omega)]
      exact hk1
    · exact if_pos ⟨hk1, hk.2⟩
  · exact (hc.mono (T := fun k => tag k ≠ 3) (fun k _ e h => by have e : tag k = 2 := e; omega)).then (h2.mono (fun k _ e h => e (by rw [hold k (by omega)]; exact h)))
  · obtain ⟨a, b, vals, hv⟩ := h8 hp
    exact ⟨by rw [hold _ (by omega)]; exact a, by rw [hold _ (by omega)]; exact b, vals, hv.kept hc (hne _ (by omega)) (hne _ (by omega))⟩
  · rw [htg] at hk
    by_cases e : w.heap.size ≤ k ∧ k < w'.heap.size
    · exact .inr e.1
    · have hk : (if w.heap.size ≤ k ∧ k < w'.heap.size then 2 else tag k) ≠ 0 := hk
      rw [if_neg e] at hk
      exact .inl hk
end
end Go.Proofs.YtgiegkacilfofabDoor
namespace Go.Proofs.YtgiegkacilfofabDoor
set_option linter.unusedVariables false
set_option linter.unusedSimpArgs false
open Go.RowKit Go.Conc

theorem gmap_del {w : World} {b n : Nat} {M : Int → Option (Nat × Int)} (h : GMap w b n M) (k : Int) (hk : (Lit.int .i64 k).wf = true) (ty : TypeId) :
    ∃ w', (Builtin.delete_ #[52, 3] ty #[.map (some b), .int .i64 k]).run Tryd.prog w = .ok (.tuple #[]) w' ∧ GMap w' b n (fun x => if x = k then none else M x) ∧ Chg (fun x => x = b) w w' := by
  obtain ⟨w', hr, hm, hc⟩ := GMapI.drop h k hk ty
  refine ⟨w', hr, ?_, hc⟩
  unfold GMap
  have e : (fun x => (if x = k then none else M x).map gval) = fun x => if x = k then none else (M x).map gval := by
    funext x
    by_cases e : x = k
    · simp [e]
    · simp [e]
  rw [e]
  exact hm
theorem gmap_put {w : World} {b n : Nat} {M : Int → Option (Nat × Int)} (h : GMap w b n M) (k : Int) (hk : (Lit.int .i64 k).wf = true) (g : Nat × Int) (hn : n < maxLen) :
    ∃ w', (Instr.mapUpdate 52 (.map (some b)) (.int .i64 k) (gval g)).run Tryd.prog w = .ok () w' ∧ GMap w' b (n + 1) (fun x => if x = k then some g else M x) ∧ Chg (fun x => x = b) w w' := by
  obtain ⟨w', hr, hm, hc⟩ := GMapI.store h k hk (gval g) hn
  refine ⟨w', hr, ?_, hc⟩
  unfold GMap
  have e : (fun x => (if x = k then some g else M x).map gval) = fun x => if x = k then some (gval g) else (M x).map gval := by
    funext x
    by_cases e : x = k
    · simp [e]
    · simp [e]
  rw [e]
  exact hm
theorem gmap_look {w : World} {b n : Nat} {M : Int → Option (Nat × Int)} (h : GMap w b n M) (k : Int) (hk : (Lit.int .i64 k).wf = true) :
    (Instr.lookup 52 (.map (some b)) (.int .i64 k) true).run Tryd.prog w = .ok (.tuple #[gval ((M k).getD (0, 0)), .bool (M k).isSome]) w := by
  have hh := GMapI.look h k hk
  cases hm : M k with
  | none => simp only [hm, Option.map_none, Option.getD_none, Option.isSome_none] at hh; exact hh
  | some g => simp only [hm, Option.map_some, Option.getD_some, Option.isSome_some] at hh; exact hh

section
variable {w : World} {tag : Nat → Nat} {m : Nat} {cap : Int} {np : Nat} {x : TAdr} {T : TS}
set_option maxRecDepth 100000 in
theorem gone_any (h : TC w tag m cap np x T) (fn : Int) (hk : (Lit.int .i64 fn).wf = true) (hnp : np < 1048576) :
    Calls Tryd.prog 24 #[.pointer (some ⟨m, 0, none⟩), .int .i64 fn] w fun e w' => e = .returned (.tuple #[]) ∧ ∃ tag', TC w' tag' m cap (np + 1) x { T with gd := (fun y => if y = fn then none else T.gd y), evs := T.evs ++ [(4, fn)] } ∧ Ext w w' tag tag' ∧ Chg (Own tag) w w' := by
  obtain ⟨hmp, nm, hnm, hg⟩ := h.map
  obtain ⟨_, Ve, hb, _⟩ := h.box
  have x5 := cell_of_block hb 5
  simp at x5
  obtain ⟨w1, hr, hm, hc⟩ := gmap_del hg fn hk 0
  have h1 := h.map_chg hc (Nat.le_refl _) ⟨nm, hnm, hm⟩
  have CN := Lib.hid (note_any h1 4 fn hnp)
  have HC : Hid (Chg (Own tag) w w1) := Lib.hid (hc.mono (fun k _ e => by have e : k = x.mp := e; show tag k ≠ 0; rw [e, hmp]; decide))
  clear h hb hg hm hc h1 hmp
  go_enter Tryd.func24, Tryd.ntmps24
  go_wp2_with fail
  refine CN.out.mono ?_; rintro e w2 ⟨rfl, tag2, hT, he, hc2⟩
  have HF := Lib.hid (And.intro hT (And.intro he hc2))
  clear hT he hc2 CN
  go_wp2_with fail
  go_end0
  exact ⟨rfl, tag2, HF.out.1, ⟨HF.out.2.1.old, fun k hk => (HF.out.2.1.new k hk).imp id (fun h => Nat.le_trans HC.out.size h)⟩, HC.out.then HF.out.2.2⟩

set_option maxRecDepth 100000 in
theorem pick_any (h : TC w tag m cap np x T) :
    Calls Tryd.prog 21 #[.pointer (some ⟨m, 0, none⟩)] w fun e w' => e = .returned (.int .i64 (pickV T)) ∧ TC w' tag m cap np x (pickedV T) ∧ Chg (fun k => k = x.ch) w w' := by
  obtain ⟨hch, s, r, hbx⟩ := h.chan
  obtain ⟨_, Ve, hb, _⟩ := h.box
  have x3 := cell_of_block hb 3
  simp at x3
  have HH := Lib.hid h
  have HCH := Lib.hid (And.intro hch hbx)
  clear h hb hbx hch
  refine calls_of_wpn Tryd.func21 rfl ?_
  simp only [Tryd.ntmps21, List.size_toArray, List.length_cons, List.length_nil, Nat.reduceAdd, Nat.reduceSub, Array.replicate_succ, Array.replicate_zero, List.push_toArray, List.append_toArray, List.nil_append, List.cons_append]
  refine wpn_seq_k (fun K hK => ?_)
  go_wp2_with fail
  try clear hK
  try clear K
  refine wpn_seq_k (fun K hK => ?_)
  go_wp2_with fail
  try clear hK
  try clear K
  refine wpn_seq ?_
  refine wpn_region ?_
  show opsn _ _ _ [0, 1, 2] _ _
  have hpk := HH.out.picks
  cases hps : T.picks with
  | nil =>
    have hc0 := HCH.out.2
    rw [hps] at hc0
    have e0 : (nums []).toArray = (#[] : Array Value) := rfl
    rw [e0] at hc0
    refine opsn_sel_none rfl rfl (w₁ := w) (c := x.ch) (z := .int .i64 0) (by simp [go_sem, execOp, rcase, Act.eval]) hc0 ?_
    simp only [Act.put, List.setIfInBounds_toArray, List.set_cons_succ, List.set_cons_zero]
    iterate 2 (refine opsn_look rfl rfl (by go_simp; with_reducible rfl) ?_; simp only [Act.put, List.setIfInBounds_toArray, List.set_cons_succ, List.set_cons_zero])
    refine opsn_end ?_
    refine wpn_of_wp ?_
    have HE : Hid (pickV T = 0 ∧ pickedV T = T) := Lib.hid ⟨by unfold pickV; rw [hps]; rfl, by unfold pickedV; rw [hps, List.tail_nil]; cases T; simp only at hps; subst hps; rfl⟩
    clear hps hc0 hpk
    go_wp2_with fail
    go_ret
    rw [HE.out.1, HE.out.2]
    exact ⟨rfl, HH.out, Chg.refl _ _⟩
  | cons z zs =>
    have hc0 := HCH.out.2
    rw [hps] at hc0
    have hsz : 0 < ((nums (z :: zs)).toArray).size := by simp [nums]
    have hg0 : ((nums (z :: zs)).toArray).getD 0 undef = .int .i64 z := by simp [nums]
    have hex : ((nums (z :: zs)).toArray).extract 1 ((nums (z :: zs)).toArray).size = (nums zs).toArray := by
      simp [nums]
      exact List.take_of_length_le (by simp)
    refine opsn_sel_buf rfl rfl (w₁ := w) (c := x.ch) (z := .int .i64 0) (by simp [go_sem, execOp, rcase, Act.eval]) hc0 hsz ?_
    rw [hg0, hex]
    obtain ⟨w7, hw7⟩ : ∃ w7, w7 = w.setChan x.ch x.cp (nums zs).toArray false s (r + 1) false := ⟨_, rfl⟩
    rw [← hw7]
    have hc7 : Chg (fun k => k = x.ch) w w7 := by rw [hw7]; exact (Chg.refl (fun k => k = x.ch) w).setChan (ch := x.ch) rfl _ _ _ _ _ _
    have h7 := HH.out.chan_chg hc7 (picks := zs) (fun y hy => hpk y (by rw [hps]; exact List.mem_cons_of_mem _ hy)) ⟨s, r + 1, by rw [hw7]; exact heap_setChan _ _ _ _ _ _ _ _ (lt_of_heap hc0)⟩
    have HF : Hid (TC w7 tag m cap np x (pickedV T) ∧ Chg (fun k => k = x.ch) w w7 ∧ pickV T = z) := Lib.hid ⟨by unfold pickedV; rw [hps]; exact h7, hc7, by unfold pickV; rw [hps]; rfl⟩
    clear hw7 hc7 h7 hps hc0 hpk hsz hg0 hex
    simp only [Act.put, List.setIfInBounds_toArray, List.set_cons_succ, List.set_cons_zero]
    iterate 2 (refine opsn_look rfl rfl (by go_simp; with_reducible rfl) ?_; simp only [Act.put, List.setIfInBounds_toArray, List.set_cons_succ, List.set_cons_zero])
    refine opsn_end ?_
    refine wpn_of_wp ?_
    clear x3
    go_wp2_with fail
    go_ret
    rw [HF.out.2.2]
    exact ⟨rfl, HF.out.1, HF.out.2.1⟩

/-! ### seen -/
def maskV (pub : List (List Bool)) (fn n : Nat) (args : List Int) (j : Nat) : List Int := (List.range n).map fun i => if i < j ∧ openV pub fn i = false then 0 else args.getD i 0
theorem mask_len (pub : List (List Bool)) (fn n : Nat) (args : List Int) (j : Nat) : (maskV pub fn n args j).length = n := by unfold maskV; rw [List.length_map, List.length_range]
theorem mask_get {pub : List (List Bool)} {fn n : Nat} {args : List Int} {j i : Nat} (hi : i < n) : (maskV pub fn n args j)[i]? = some (if i < j ∧ openV pub fn i = false then 0 else args.getD i 0) := by
  unfold maskV
  rw [List.getElem?_map, List.getElem?_range hi]
  rfl
theorem mask_end (T : TS) (fn : Nat) (args : List Int) : maskV T.pub fn (parV (T.f fn)) args (parV (T.f fn)) = seenV T fn args := by
  unfold maskV seenV
  refine List.map_congr_left (fun i hi => ?_)
  have hi := List.mem_range.1 hi
  cases h : openV T.pub fn i with
  | true => rw [if_neg (by simp), if_pos rfl]
  | false => rw [if_pos ⟨hi, rfl⟩, if_neg (by simp)]
theorem copy_args {w : World} {G n : Nat} {V : Value} {args : List Int} (hb : w.heap[G]? = some (.cells (madeCells #[.int .i64 0] n) 2 (0, 0))) (ha : NumSrc w V args) :
    ∃ u w', (∀ ty, (Builtin.copy_ #[22, 22] ty #[.slice (some ⟨G, 0, none⟩) n n, V]).run Tryd.prog w = .ok u w') ∧ (∃ cur, w'.heap[G]? = some (.cells cur 2 (0, 0)) ∧ cur.size = n ∧ ∀ j, j < n → cur[j]? = some (.int .i64 (args.getD j 0))) ∧ Chg (fun k => k = G) w w' := by
  obtain ⟨A, c, rfl, h1, h2, h3⟩ := ha
  have hmade : ∀ j, j < n → (madeCells #[.int .i64 0] n)[j]? = some (.int .i64 0) := fun j hj => by
    have hs := made_size n
    rw [Array.getElem?_eq_getElem (by omega)]
    simp [madeCells, Nat.mod_one]
  by_cases h0 : 0 < args.length
  · obtain ⟨b, off, rfl, hc⟩ := h3 h0
    obtain ⟨k, hkk⟩ : ∃ k, Nat.min args.length n = k := ⟨_, rfl⟩
    have hkl : k ≤ args.length := by rw [← hkk]; exact Nat.min_le_left _ _
    have hkn : k ≤ n := by rw [← hkk]; exact Nat.min_le_right _ _
    have hko : k = args.length ∨ k = n := by rw [← hkk]; rcases Nat.le_total args.length n with h | h; exact .inl (Nat.min_eq_left h); exact .inr (Nat.min_eq_right h)
    have hk : (args.take k).length = k := by rw [List.length_take]; omega
    have hcp := fun ty => copy_cells (P := Tryd.prog) w 22 22 ty 2 1 G 0 n n ⟨b, off, none⟩ args.length c (madeCells #[.int .i64 0] n) 2 (nums (args.take (k))) Tryd.underlying22 sizeL hb (by rw [nums_length, hk, Nat.mul_one, hkk]) (fun j v hj => by
      have hj1 : j < (args.take (k)).length := by have := (List.getElem?_eq_some_iff.1 hj).1; rwa [nums_length] at this
      rw [nums_get _ j hj1] at hj
      injection hj with hj
      have e1 : (⟨b, off, none⟩ : Addr).add j = ⟨b, off + j, none⟩ := by unfold Addr.add; split <;> simp_all
      rw [← hj, e1, List.getElem_take]
      exact hc j _ (List.getElem?_eq_getElem _)) (by rw [nums_length, hk, made_size]; omega) (fun v hv => by obtain ⟨y, _, rfl⟩ := List.mem_map.1 hv; rfl)
    refine ⟨_, _, hcp, ⟨_, setRow_heap w G _ _ 2 (0, 0) hb, ?_, fun j hj => ?_⟩, (Chg.refl (fun k => k = G) w).setRow (fun _ => rfl) _⟩
    · rw [List.size_toArray, over_length _ _ _ (by rw [nums_length, hk]; simp [made_size]; omega)]
      simp [made_size]
    · rw [List.getElem?_toArray, over_get _ _ _ (by rw [nums_length, hk]; simp [made_size]; omega), if_neg (by omega), nums_length, hk]
      by_cases hj1 : j < 0 + k
      · rw [if_pos hj1, Nat.sub_zero, nums_get _ j (by rw [hk]; omega), List.getElem_take]
        have : j < args.length := by omega
        rw [List.getD_eq_getElem?_getD, List.getElem?_eq_getElem this]
        rfl
      · have : args.length ≤ j := by omega
        rw [if_neg hj1, List.getD_eq_getElem?_getD, List.getElem?_eq_none this, Array.getElem?_toList]
        exact hmade j hj
  · obtain rfl : args = [] := List.eq_nil_of_length_eq_zero (by omega)
    refine ⟨goInt 0, w, fun ty => ?_, ⟨_, hb, made_size n, fun j hj => hmade j hj⟩, Chg.refl _ _⟩
    cases A with
    | none => exact copy_nil w _ _ ty 2 _ n n c Tryd.underlying22 (by rw [sizeL]; rfl)
    | some ad =>
      have := copy_cells (P := Tryd.prog) w 22 22 ty 2 1 G 0 n n ad 0 c (madeCells #[.int .i64 0] n) 2 [] Tryd.underlying22 sizeL hb (by simp) (by simp) (by simp) (by simp)
      rw [show over (madeCells #[.int .i64 0] n).toList 0 [] = (madeCells #[.int .i64 0] n).toList by simp [over], Array.toArray_toList, setRow_self w G _ 2 (0, 0) hb] at this
      simpa using this
set_option maxHeartbeats 1000000 in
set_option maxRecDepth 100000 in
theorem seen_any {V : Value} {args : List Int} (h : TC w tag m cap np x T) (fn : Nat) (hf : fn < T.fs.length) (ha : NumSrc w V args) :
    Calls Tryd.prog 18 #[.pointer (some ⟨m, 0, none⟩), .int .i64 fn, V] w fun e w' => ∃ b c, e = .returned (.slice (some ⟨b, 0, none⟩) (seenV T fn args).length c) ∧ w.heap.size ≤ b ∧ b < w'.heap.size ∧ (∀ j z, (seenV T fn args)[j]? = some z → w'.cell? ⟨b, j, none⟩ = some (.int .i64 z)) ∧ Below w.heap.size w w' := by
  obtain ⟨A, c, rfl⟩ := ha.shape
  have CP := Lib.hid (tparams_any h fn hf)
  have hl63 : args.length ≤ 9223372036854775807 := by have h1 := ha.get.2.1; have h2 := ha.get.2.2.1; unfold maxLen at h2; omega
  have HH := Lib.hid h
  have HA := Lib.hid ha
  obtain ⟨n, hn⟩ : ∃ n, n = parV (T.f fn) := ⟨_, rfl⟩
  rw [← hn] at CP
  have hn8 : n ≤ 8 := by rw [hn]; unfold parV; omega
  have HN := Lib.hid hn
  clear h ha hn
  go_enter Tryd.func18, Tryd.ntmps18
  go_wp2_with fail
  refine CP.out.mono ?_; rintro e w1 ⟨rfl, hw1⟩
  subst hw1
  clear CP
  have hmk := mkL n (by omega)
  obtain ⟨w2, hw2⟩ : ∃ z, z = w1.alloc (.cells (madeCells #[.int .i64 0] n) 2) := ⟨_, rfl⟩
  obtain ⟨G, hG⟩ : ∃ z, z = w1.heap.size := ⟨_, rfl⟩
  have hb2 : w2.heap[G]? = some (.cells (madeCells #[.int .i64 0] n) 2 (0, 0)) := by rw [hw2]; exact heap_new' hG.symm
  have b12 : Below w1.heap.size w1 w2 := by rw [hw2]; exact (Below.refl _ _).alloc (Nat.le_refl _) _
  obtain ⟨u, w3, hcp, ⟨cur, hb3, hsz, hcur⟩, hc3⟩ := copy_args hb2 (HA.out.keep b12)
  have HW := Lib.hid (And.intro hw2 hG)
  have hG1 : w1.heap.size ≤ G := by rw [hG]; exact Nat.le_refl _
  have b13 : Below w1.heap.size w1 w3 := b12.trans (hc3.below (B := w1.heap.size) (fun k e => by have e : k = G := e; rw [e]; exact hG1) b12.size)
  have H3 : Hid ((∃ cur, w3.heap[G]? = some (.cells cur 2 (0, 0)) ∧ cur.size = n ∧ ∀ j, j < n → cur[j]? = some (.int .i64 (if j < 0 ∧ openV T.pub fn j = false then 0 else args.getD j 0))) ∧ Below w1.heap.size w1 w3) := Lib.hid ⟨⟨cur, hb3, hsz, fun j hj => by rw [if_neg (by omega)]; exact hcur j hj⟩, b13⟩
  have HG1 := Lib.hid hG1
  clear hw2 hG hb2 b12 hb3 hsz hcur hc3 b13 hG1
  go_upto_region 2 with fail
  rw [← HW.out.1, ← HW.out.2]
  clear hmk
  have hcp0 := hcp 3
  go_wp2_with fail
  go_loopg [18] n (fun k i wr => ∃ j : Nat, j ≤ n ∧ k = n - j ∧ i = .int .i64 j ∧ Hid ((∃ cur, wr.heap[G]? = some (.cells cur 2 (0, 0)) ∧ cur.size = n ∧ ∀ q, q < n → cur[q]? = some (.int .i64 (if q < j ∧ openV T.pub fn q = false then 0 else args.getD q 0))) ∧ Below w1.heap.size w1 wr))
  case atStart => exact ⟨0, by omega, rfl, rfl, H3⟩
  case round =>
    clear H3
    obtain ⟨j, hj, hk, rfl, HR⟩ := hrel
    have HK := Lib.hid hk
    clear hk
    by_cases hlt : j < n
    · have CO := Lib.hid (topen_any (HH.out.kept (Below.chg HR.out.2) (fun k hk x => x)) fn j)
      obtain ⟨⟨cur, hb, hsz, hcur⟩, hbel⟩ := HR.out
      have c0 := cell_cur hb (hcur j hlt)
      have f0 := frozen_of_block hb j
      have HB := Lib.hid (And.intro hb (And.intro hsz (And.intro hcur hbel)))
      obtain ⟨o, ho⟩ : ∃ o, o = openV T.pub fn j := ⟨_, rfl⟩
      rw [← ho] at CO
      have HO := Lib.hid ho
      clear hb hsz hcur hbel ho
      generalize (if j < j ∧ openV T.pub fn j = false then (0 : Int) else args.getD j 0) = old at c0
      go_wp2_with fail
      refine CO.out.mono ?_; rintro e w4 ⟨rfl, hw4⟩
      subst hw4
      clear CO
      cases o with
      | true =>
        go_wp2_with fail
        go_roundg (n - (j + 1))
        case measure => have := HK.out; omega
        case rel =>
          refine ⟨j + 1, by omega, rfl, by go_num, Lib.hid ⟨⟨cur, HB.out.1, HB.out.2.1, fun q hq => ?_⟩, HB.out.2.2.2⟩⟩
          rw [HB.out.2.2.1 q hq]
          by_cases e : q = j
          · subst e
            rw [if_neg (by omega), if_neg (by rw [← HO.out]; simp)]
          · by_cases h2 : q < j
            · by_cases h3 : openV T.pub fn q = false
              · rw [if_pos ⟨h2, h3⟩, if_pos ⟨by omega, h3⟩]
              · rw [if_neg (fun h => h3 h.2), if_neg (fun h => h3 h.2)]
            · rw [if_neg (fun h => h2 h.1), if_neg (fun h => by omega)]
      | false =>
        go_wp2_with fail
        go_roundg (n - (j + 1))
        case measure => have := HK.out; omega
        case rel =>
          refine ⟨j + 1, by omega, rfl, by go_num, Lib.hid ⟨⟨_, heap_set HB.out.1 j _, by rw [Array.size_setIfInBounds]; exact HB.out.2.1, fun q hq => ?_⟩, HB.out.2.2.2.trans ((Chg.set_cell (w := w4) ⟨G, j, none⟩ _).below (B := w1.heap.size) (fun k e => by have e : k = G := e; rw [e]; exact HG1.out) HB.out.2.2.2.size)⟩⟩
          rw [set_get]
          by_cases e : q = j
          · subst e
            rw [if_pos rfl, if_pos (by rw [HB.out.2.1]; exact hq), if_pos ⟨by omega, HO.out.symm⟩]
          · rw [if_neg (fun h => e h.symm), HB.out.2.2.1 q hq]
            by_cases h2 : q < j
            · by_cases h3 : openV T.pub fn q = false
              · rw [if_pos ⟨h2, h3⟩, if_pos ⟨by omega, h3⟩]
              · rw [if_neg (fun h => h3 h.2), if_neg (fun h => h3 h.2)]
            · rw [if_neg (fun h => h2 h.1), if_neg (fun h => by omega)]
    · obtain rfl : j = n := by omega
      go_wp2_with fail
      go_ret
      obtain ⟨⟨cur, hb, hsz, hcur⟩, hbel⟩ := HR.out
      have hse := mask_end T fn args
      have hsl : (seenV T fn args).length = j := by rw [seen_len, ← HN.out]
      refine ⟨G, j, by rw [hsl]; rfl, HG1.out, lt_of_heap hb, fun q z hz => ?_, hbel⟩
      have hq : q < j := by rw [← hsl]; exact (List.getElem?_eq_some_iff.1 hz).1
      rw [← hse, ← HN.out, mask_get hq] at hz
      injection hz with hz
      rw [← hz]
      exact cell_cur hb (hcur q hq)
end
end Go.Proofs.YtgiegkacilfofabDoor
namespace Go.Proofs.YtgiegkacilfofabDoor
set_option linter.unusedVariables false
set_option linter.unusedSimpArgs false
open Go.RowKit Go.Conc

theorem body_none {T : TS} {fn : Nat} {pick : Int} {own : List Int} (h : pick = 2 → firstOpen T fn = none) : bodyV T fn pick own = (foldv (T.f fn).l, T.gd) := by
  unfold bodyV
  by_cases hp : pick = 2
  · rw [if_pos hp, h hp]
  · rw [if_neg hp]
theorem body_some {T : TS} {fn k : Nat} {own : List Int} (h : firstOpen T fn = some k) : bodyV T fn 2 own = (forv (T.f fn).l (T.f fn).ps k (own.getD k 0), fun x => if x = (fn : Int) then some (k, own.getD k 0) else T.gd x) := by
  unfold bodyV
  rw [if_pos rfl, h]
theorem firstOpen_at {T : TS} {fn k : Nat} (hk : k < parV (T.f fn)) (h0 : ∀ q, q < k → openV T.pub fn q = false) (h1 : openV T.pub fn k = true) : firstOpen T fn = some k := by
  unfold firstOpen
  rw [List.find?_eq_some_iff_append]
  refine ⟨h1, List.range k, (List.range (parV (T.f fn) - k - 1)).map (fun q => k + 1 + q), ?_, fun q hq => ?_⟩
  · apply List.ext_getElem?
    intro i
    rw [List.getElem?_append, List.length_range]
    by_cases h2 : i < k
    · rw [if_pos h2, List.getElem?_range (by omega), List.getElem?_range h2]
    · rw [if_neg h2]
      by_cases h3 : i = k
      · subst h3
        rw [Nat.sub_self, List.getElem?_range hk]
        rfl
      · obtain ⟨d, hd⟩ : ∃ d, i - k = d + 1 := ⟨i - k - 1, by omega⟩
        rw [hd, List.getElem?_cons_succ, List.getElem?_map]
        by_cases h4 : i < parV (T.f fn)
        · rw [List.getElem?_range h4, List.getElem?_range (by omega)]
          simp
          omega
        · rw [List.getElem?_eq_none (by rw [List.length_range]; omega), List.getElem?_eq_none (by rw [List.length_range]; omega)]
          rfl
  · rw [h0 q (List.mem_range.1 hq)]
    rfl
theorem firstOpen_no {T : TS} {fn : Nat} (h0 : ∀ q, q < parV (T.f fn) → openV T.pub fn q = false) : firstOpen T fn = none := by
  unfold firstOpen
  rw [List.find?_eq_none]
  intro q hq
  rw [h0 q (List.mem_range.1 hq)]
  simp

theorem map_cell {w : World} {b n : Nat} {M : Int → Option (Nat × Int)} (h : GMap w b n M) {p : Addr} {u : Value} (hc : w.cell? p = some u) : p.block ≠ b := fun e => by
  obtain ⟨D, ⟨es, clock, hb, _⟩, _⟩ := h
  unfold World.cell? at hc
  rw [e, hb] at hc
  cases hc
theorem src_map {w w' : World} {b n k : Nat} {M : Int → Option (Nat × Int)} {v : Value} {cs : List Value} (h : Src w v k cs) (hm : GMap w b n M) (hc : Chg (fun x => x = b) w w') : Src w' v k cs := by
  rcases h with h | ⟨b2, off, cap, e, h1, h2, h3, h4⟩
  · exact .inl h
  · exact .inr ⟨b2, off, cap, e, Nat.lt_of_lt_of_le h1 hc.size, h2, h3, fun j u hu => hc.cell (h4 j u hu) (map_cell hm (h4 j u hu))⟩

section
variable {w : World} {tag : Nat → Nat} {m : Nat} {cap : Int} {np : Nat} {x : TAdr} {T : TS}
set_option maxHeartbeats 4000000 in
set_option maxRecDepth 100000 in
theorem body_any (h : TC w tag m cap np x T) (fn : Nat) (hf : fn < T.fs.length) (pick : Int) {own : List Int} {vals : Nat → Nat → Int} (hP : ProfIs w x.p x.g T.fs.length (fun j => (parV (T.f j) : Int)) vals) (hv : ∀ i, i < parV (T.f fn) → vals fn i = own.getD i 0) (hnp : np < 1048576) :
    Calls Tryd.prog 34 #[.pointer (some ⟨m, 0, none⟩), .int .i64 fn, .int .i64 pick] w fun e w' => ∃ v', e = .returned v' ∧ w'.ownsRow 0 44 3 v' (bodyV T fn pick own).1.length (insCells (bodyV T fn pick own).1) ∧ (∀ k, v'.ownBlock = some k → w.heap.size ≤ k) ∧ TC w' tag m cap (np + 1) x { T with gd := (bodyV T fn pick own).2 } ∧ Chg (Own tag) w w' := by
  obtain ⟨b, off, cp, A, c, e, _, hcp, ⟨c0, c1, c2, c3, c4⟩, hsrc⟩ := h.fnsNow.1.get fn hf
  have hTf : T.f fn = T.fs[fn] := by unfold TS.f; rw [List.getD_eq_getElem?_getD, List.getElem?_eq_getElem hf]; rfl
  have hsm := h.small.2.1 _ (List.getElem_mem hf)
  have hn20 := h.small.1
  rw [← hTf] at c0 c1 c2 c3 c4 hsrc hsm
  obtain ⟨_, Ve, hb, _⟩ := h.box
  have y1 := cell_of_block hb 1
  have y4 := cell_of_block hb 4
  have y5 := cell_of_block hb 5
  simp at y1 y4 y5
  rw [e] at y1
  obtain ⟨nm, hnm⟩ : ∃ z, z = (T.f fn).nm := ⟨_, rfl⟩
  obtain ⟨ps, hps⟩ : ∃ z, z = (T.f fn).ps := ⟨_, rfl⟩
  obtain ⟨vs, hvs⟩ : ∃ z, z = (T.f fn).vs := ⟨_, rfl⟩
  obtain ⟨ar, har⟩ : ∃ z, z = (T.f fn).ar := ⟨_, rfl⟩
  obtain ⟨l, hl⟩ : ∃ z, z = (T.f fn).l := ⟨_, rfl⟩
  obtain ⟨n, hn⟩ : ∃ z, z = parV (T.f fn) := ⟨_, rfl⟩
  obtain ⟨N, hN⟩ : ∃ z, z = T.fs.length := ⟨_, rfl⟩
  have hn8 : n ≤ 8 := by rw [hn]; unfold parV; omega
  have HE := Lib.hid (And.intro hps (And.intro hl (And.intro hn hN)))
  rw [← hnm] at c0
  rw [← hps] at c1
  rw [← hvs] at c2
  rw [← har] at c3
  rw [← hl] at c4 hsrc hsm
  rw [← hN] at y1 hn20 hcp hf
  obtain ⟨w1, hw1⟩ : ∃ z, z = w.alloc (.cells #[.string nm, .int .i64 ps, .int .i64 vs, .int .i64 ar, .slice A l.length c] 39) := ⟨_, rfl⟩
  obtain ⟨B, hB⟩ : ∃ z, z = w.heap.size := ⟨_, rfl⟩
  have b1 : Below w.heap.size w w1 := by rw [hw1]; exact (Below.refl _ _).alloc (Nat.le_refl _) _
  have hb1 : w1.heap[B]? = some (.cells #[.string nm, .int .i64 ps, .int .i64 vs, .int .i64 ar, .slice A l.length c] 39 (0, 0)) := by rw [hw1]; exact heap_new' hB.symm
  have h1 := h.kept (Below.chg b1) (fun k hk x => x)
  have hP1 := hP.kept (Below.chg b1) (fun x => x) (fun x => x)
  have CP := Lib.hid (tparams_any h1 fn (by rw [← hN]; exact hf))
  rw [← hn] at CP
  have CO := Lib.hid (fun i => topen_any h1 fn i)
  have HW := Lib.hid (And.intro hw1 hB)
  have HB1 := Lib.hid (And.intro b1 hb1)
  have HH := Lib.hid h1
  have HP := Lib.hid hP1
  have HS := Lib.hid (hsrc.keepB b1)
  have HV := Lib.hid hv
  have HX := Lib.hid hsm
  have HTG : Hid (∀ k, tag k ≠ 0 → k < w.heap.size) := Lib.hid h.lt
  have z1 := (Below.chg b1).cell y1 (fun x => x)
  have z4 := (Below.chg b1).cell y4 (fun x => x)
  have z5 := (Below.chg b1).cell y5 (fun x => x)
  have q0 := cell_of_block hb1 0
  have q1 := cell_of_block hb1 1
  have q2 := cell_of_block hb1 2
  have q3 := cell_of_block hb1 3
  have q4 := cell_of_block hb1 4
  simp at q0 q1 q2 q3 q4
  clear h hb e hTf hsm hnm hps hvs har hl hn hN hw1 hB b1 hb1 h1 hP1 hP hsrc hv
  go_enter Tryd.func34, Tryd.ntmps34
  go_upto_region 2 with fail
  rw [← HW.out.1, ← HW.out.2]
  clear c0 c1 c2 c3 c4 y1 y4 y5
  go_wp2_with fail
  refine CP.out.mono ?_; rintro e w2 ⟨rfl, hw2⟩
  subst hw2
  clear CP
  go_wp2_with fail
  go_loopg [22] n (fun k i wr => ∃ j : Nat, j ≤ n ∧ k = n - j ∧ i = .int .i64 j ∧ Hid (pick = 2 → ∀ q, q < j → openV T.pub fn q = false) ∧ wr = w2)
  case atStart => exact ⟨0, by omega, rfl, rfl, Lib.hid (fun _ q hq => by omega), rfl⟩
  case round =>
    obtain ⟨j, hj, hk, rfl, HQ, rfl⟩ := hrel
    have HK := Lib.hid hk
    clear hk
    by_cases hlt : j < n
    · by_cases hp : pick = 2
      · subst hp
        have CO1 := Lib.hid (CO.out j)
        obtain ⟨o, ho⟩ : ∃ o, o = openV T.pub fn j := ⟨_, rfl⟩
        rw [← ho] at CO1
        have HO := Lib.hid ho
        clear ho
        go_wp2_with fail
        refine CO1.out.mono ?_; rintro e w3 ⟨rfl, hw3⟩
        subst hw3
        clear CO1
        cases o with
        | true =>
          have hfo : firstOpen T fn = some j := firstOpen_at (by rw [← HE.out.2.2.1]; exact hlt) (HQ.out trivial) HO.out.symm
          have CV := Lib.hid (pvalue_any HP.out (fn := fn) (i := j) (by rw [← HE.out.2.2.2]; exact hf) (by show (j : Int) < ((parV (T.f fn) : Nat) : Int); rw [← HE.out.2.2.1]; omega))
          rw [HV.out j (by rw [← HE.out.2.2.1]; exact hlt)] at CV
          have HFO := Lib.hid hfo
          obtain ⟨v, hvv⟩ : ∃ v, v = own.getD j 0 := ⟨_, rfl⟩
          rw [← hvv] at CV
          have HVV := Lib.hid hvv
          clear hfo hvv
          go_wp2_with fail
          refine CV.out.mono ?_; rintro e w4 ⟨⟨t, rfl⟩, dk, rfl⟩
          clear CV
          have h4 := HH.out.kept ((Chg.refl (fun _ => False) w3).drewN dk) (fun _ _ x => x)
          obtain ⟨hmp, nm0, hnm0, hg⟩ := h4.map
          obtain ⟨w5, hr, hm5, hc5⟩ := gmap_put hg (fn : Int) (WalkArith.wf_i64 (by omega)) (j, v) (by simp [maxLen]; omega)
          have h5 := h4.map_chg hc5 (np' := np + 1) (by omega) ⟨nm0 + 1, by omega, hm5⟩
          have hr : (Instr.mapUpdate 52 (.map (some x.mp)) (.int .i64 (fn : Int)) (.agg #[.int .i64 (j : Int), .int .i64 v])).run Tryd.prog (w3.drewN dk) = .ok () w5 := hr
          have hmB : x.mp ≠ B := fun e => by have := HTG.out x.mp (by rw [hmp]; decide); have := HW.out.2; omega
          have hc5' : Chg (fun k => k = x.mp) w3 w5 := hc5.of_drewN
          have hb5 := hc5'.heap HB1.out.2 (fun e => hmB e.symm)
          have hS3 : Src w3 (.slice A l.length c) l.length (insCells l) := HS.out
          have hS4 : Src (w3.drewN dk) (.slice A l.length c) l.length (insCells l) := hS3.kept ((Chg.refl (fun _ => False) w3).drewN dk) (.inr (fun _ _ x => x))
          have hS5 := src_map hS4 hg hc5
          have CF := for_any nm ps vs ar (j : Int) v hS5 (HX.out.1) (fun y hy => (HX.out.2 y hy).wf)
          obtain ⟨R, hR⟩ : ∃ R, R = forv l ps (j : Int) v := ⟨_, rfl⟩
          rw [← hR] at CF
          replace CF := Lib.hid CF
          have HRR := Lib.hid hR
          clear hR
          have HC5 := Lib.hid (And.intro h5 (And.intro hc5' hmp))
          have q0 := cell_of_block hb5 0
          have q1 := cell_of_block hb5 1
          have q2 := cell_of_block hb5 2
          have q3 := cell_of_block hb5 3
          have q4 := cell_of_block hb5 4
          simp at q0 q1 q2 q3 q4
          clear h4 hmp hg hm5 hc5 h5 hc5' hb5 hS3 hS4 hS5 hmB
          have HRR2 := Lib.hid hr
          go_wp2_with fail
          refine Calls.mono CF.out ?_
          rintro e w6 ⟨v', he, ho, hfar, hb6⟩
          subst he
          have HR := Lib.hid (And.intro ho (And.intro hfar hb6))
          clear ho hfar hb6 CF hr
          go_wp2_with fail
          go_ret
          have hbv := body_some (own := own) HFO.out
          rw [← HVV.out, ← HE.out.1, ← HE.out.2.1] at hbv
          rw [← HRR.out] at hbv
          rw [hbv]
          have hw13 := HB1.out.1.size
          refine ⟨v', rfl, HR.out.1, fun k hk => ?_, HC5.out.1.kept (Below.chg HR.out.2.2) (fun _ _ x => x), ?_⟩
          · have := HR.out.2.1 k hk; have := HC5.out.2.1.size; omega
          · exact (((Below.chg HB1.out.1).mono (T := Own tag) (fun _ _ x => x.elim)).then (HC5.out.2.1.mono (T := Own tag) (fun k _ e => by have e : k = x.mp := e; show tag k ≠ 0; rw [e, HC5.out.2.2]; decide))).then ((Below.chg HR.out.2.2).mono (T := Own tag) (fun _ _ x => x.elim))
        | false =>
          go_wp2_with fail
          go_roundg (n - (j + 1))
          case measure => have := HK.out; omega
          case rel => exact ⟨j + 1, by omega, rfl, by go_num, Lib.hid (fun h q hq => by by_cases e : q = j; (rw [e]; exact HO.out.symm); exact HQ.out h q (by omega)), rfl⟩
      · go_wp2_with fail
        go_roundg (n - (j + 1))
        case measure => have := HK.out; omega
        case rel => exact ⟨j + 1, by omega, rfl, by go_num, Lib.hid (fun h => absurd h hp), rfl⟩
    · obtain rfl : j = n := by omega
      have hbv : bodyV T fn pick own = (foldv l, T.gd) := by
        rw [HE.out.2.1]
        exact body_none (fun hp => firstOpen_no (fun q hq => HQ.out hp q (by rw [HE.out.2.2.1]; exact hq)))
      have HBV := Lib.hid hbv
      have hS3 : Src wr (.slice A l.length c) l.length (insCells l) := HS.out
      have CF := Lib.hid (plain_any nm ps vs ar hS3 HX.out.1 (fun y hy => (HX.out.2 y hy).wf))
      clear hbv hS3
      go_wp2_with fail
      refine CF.out.mono ?_; rintro e w6 ⟨v', rfl, ho, hfar, hb6⟩
      have HR := Lib.hid (And.intro ho (And.intro hfar hb6))
      clear ho hfar hb6 CF
      go_wp2_with fail
      go_ret
      have hw13 := HB1.out.1.size
      rw [HBV.out]
      exact ⟨v', rfl, HR.out.1, fun k hk => by have := HR.out.2.1 k hk; omega, (HH.out.kept (Below.chg HR.out.2.2) (fun _ _ x => x)).mono (by omega), ((Below.chg HB1.out.1).then (Below.chg HR.out.2.2)).mono (fun _ _ x => x.elim)⟩
end
end Go.Proofs.YtgiegkacilfofabDoor
namespace Go.Proofs.YtgiegkacilfofabDoor
set_option linter.unusedVariables false
set_option linter.unusedSimpArgs false
open Go.RowKit Go.Conc

theorem ext_le {a a' b b' : World} {t u : Nat → Nat} (h : Ext a b t u) (hs : a'.heap.size ≤ a.heap.size) : Ext a' b' t u := ⟨h.old, fun k hk => (h.new k hk).imp id (fun x => Nat.le_trans hs x)⟩
theorem putv_gone {cap : Int} {l : List (Int × List InsR)} {fn : Int} {body : List InsR} : (putv cap l fn body).1 = 0 ∨ ∃ e ∈ l, (putv cap l fn body).1 = e.1 := by
  unfold putv
  split
  · exact .inl rfl
  · split
    · cases l with
      | nil => exact .inl rfl
      | cons e l => exact .inr ⟨e, by simp, rfl⟩
    · exact .inl rfl

section
variable {w : World} {tag : Nat → Nat} {m : Nat} {cap : Int} {np : Nat} {x : TAdr} {T : TS}
set_option maxHeartbeats 4000000 in
set_option maxRecDepth 100000 in
theorem compiles_any (h : TC w tag m cap np x T) (fn : Nat) (hf : fn < T.fs.length) (pick : Int) {own : List Int} {vals : Nat → Nat → Int} (hP : ProfIs w x.p x.g T.fs.length (fun j => (parV (T.f j) : Int)) vals) (hv : ∀ i, i < parV (T.f fn) → vals fn i = own.getD i 0) (hnp : np + 10 < 1048576)
    (hkeys : ∀ e ∈ T.cache, 1 ≤ e.1 ∧ e.1 < (T.fs.length : Int)) (hlen : (bodyV T fn pick own).1.length ≤ 1048576) :
    Calls Tryd.prog 22 #[.pointer (some ⟨m, 0, none⟩), .int .i64 fn, .int .i64 pick] w fun e w' => e = .returned (.int .i64 (2 * ((T.f fn).l.length : Int))) ∧ ∃ tag', TC w' tag' m cap (np + 4) x (compV cap T fn pick own) ∧ Ext w w' tag tag' ∧ Chg (Own tag) w w' := by
  have CB := Lib.hid (body_any h fn hf pick hP hv (by omega))
  have hfs := h.small
  have HLT := Lib.hid h.lt
  obtain ⟨ln, hln⟩ : ∃ z, z = (T.f fn).l.length := ⟨_, rfl⟩
  have hln2 : ln ≤ 1048576 := by
    rw [hln]
    have := hfs.2.1 (T.f fn) (by unfold TS.f; rw [List.getD_eq_getElem?_getD, List.getElem?_eq_getElem hf]; exact List.getElem_mem hf)
    exact this.1
  rw [← hln]
  have HLN := Lib.hid hln
  clear hln
  obtain ⟨B, hB⟩ : ∃ z, z = bodyV T fn pick own := ⟨_, rfl⟩
  have hcv : compV cap T fn pick own = putS cap { T with gd := B.2 } fn B.1 := by rw [hB]; rfl
  rw [← hB] at CB hlen
  rw [hcv]
  clear hB hcv h hP hv
  go_enter Tryd.func22, Tryd.ntmps22
  go_wp2_with fail
  refine CB.out.mono ?_; rintro e w1 ⟨v', rfl, hrow, hfar, h1, hc1⟩
  have CN := Lib.hid (note_any h1 1 fn (by omega))
  have H1 := Lib.hid (And.intro hrow (And.intro hfar hc1))
  clear CB hrow hfar hc1 h1
  go_wp2_with fail
  refine CN.out.mono ?_; rintro e w2 ⟨rfl, tag2, h2, he2, hc2⟩
  clear CN
  obtain ⟨_, Ve, hb2, _⟩ := h2.box
  have y0 := cell_of_block hb2 0
  simp at y0
  obtain ⟨nc, hnc, hca⟩ := h2.cache
  have hvl : ∀ k, v'.ownBlock = some k → ¬ tag2 k = 2 := fun k hk e => by
    rcases he2.new k (by omega) with h | h
    · have h3 := HLT.out k h
      have h4 := H1.out.2.1 k hk
      omega
    · have h3 := ownsRow_lt H1.out.1 k hk
      omega
  have CPUT := Lib.hid (cache_put_any hca (fn : Int) (WalkArith.wf_i64 (by omega)) v' B.1 ((Src.of_row H1.out.1).kept hc2 (.inr (fun k hk e => by
    have h3 := HLT.out k e
    have h4 := H1.out.2.1 k hk
    omega))) (.inr hvl) (by omega) (by omega))
  have H2 := Lib.hid (And.intro h2 (And.intro he2 hc2))
  clear h2 he2 hc2 hb2 hca hvl
  have hgone := putv_gone (cap := cap) (l := T.cache) (fn := (fn : Int)) (body := B.1)
  have HPS : Hid (putS cap { T with gd := B.2 } fn B.1 = { T with cache := (putv cap T.cache fn B.1).2.2, gd := if (putv cap T.cache fn B.1).2.1 = true then (fun x => if x = (putv cap T.cache fn B.1).1 then none else B.2 x) else B.2, evs := T.evs ++ [(1, (fn : Int))] ++ (if (putv cap T.cache fn B.1).2.1 = true then [(4, (putv cap T.cache fn B.1).1)] else []) }) := Lib.hid rfl
  have HKK := Lib.hid hkeys
  simp only at CPUT
  rcases hpv : putv cap T.cache fn B.1 with ⟨gn, ev, l'⟩
  rw [hpv] at CPUT hgone HPS
  simp only at CPUT hgone HPS
  have HGN : Hid ((Lit.int .i64 gn).wf = true) := Lib.hid (by
    rcases hgone with e | ⟨e0, h0, e⟩
    · rw [e]; rfl
    · have := hkeys e0 h0
      rw [e]
      have h1 := hfs.1
      exact WalkArith.wf_i64 (by omega))
  have HFS := Lib.hid hfs
  clear hpv hgone hkeys hfs
  have REG : Hid (∀ (w4 : World) (tag4 : Nat → Nat) (T4 : TS), T4.fs = T.fs → TC w4 tag4 m cap (np + 4) x T4 → ∃ b off cp A c, x.Vc = .slice (some ⟨b, off, none⟩) T.fs.length cp ∧ w4.cell? ⟨m, 1, none⟩ = some (.slice (some ⟨b, off, none⟩) T.fs.length cp) ∧ w4.cell? ⟨b, off + fn * 5 + 4, none⟩ = some (.slice A ln c)) := Lib.hid (fun w4 tag4 T4 hT h4 => by
    obtain ⟨fs4, p4, k4, a4, g4, v4⟩ := T4
    simp only at hT
    subst hT
    obtain ⟨b, off, cp, A, c, e, _, hcp, ⟨_, _, _, _, c4⟩, _⟩ := h4.fnsNow.1.get fn hf
    obtain ⟨_, Ve, hb, _⟩ := h4.box
    have y1 := cell_of_block hb 1
    simp at y1
    rw [e] at y1
    have hTf : T.fs[fn] = T.f fn := by
      unfold TS.f
      rw [List.getD_eq_getElem?_getD, List.getElem?_eq_getElem hf]
      rfl
    rw [hTf, ← HLN.out] at c4
    exact ⟨b, off, cp, A, c, e, y1, c4⟩)
  obtain ⟨N, hN⟩ : ∃ z, z = T.fs.length := ⟨_, rfl⟩
  have hN2 : N ≤ 1048576 := by rw [hN]; exact HFS.out.1
  rw [← hN] at REG
  rw [← hN] at hf
  clear hN
  go_wp2_with fail
  refine CPUT.out.mono ?_; rintro e w3 ⟨rfl, hca3, hc3⟩
  clear CPUT y0
  obtain ⟨tag3, h3, he3⟩ := H2.out.1.cache_chg hc3 (np' := np + 3) (by omega) ⟨nc + 1, by omega, hca3⟩
  have hc3' : Chg (Own tag2) w2 w3 := hc3.mono (fun k _ e => by have e : tag2 k = 2 := e; show tag2 k ≠ 0; omega)
  have H3 := Lib.hid (And.intro h3 (And.intro he3 hc3'))
  have HS12 : Hid (w.heap.size ≤ w1.heap.size ∧ w1.heap.size ≤ w2.heap.size ∧ w2.heap.size ≤ w3.heap.size) := Lib.hid ⟨H1.out.2.2.size, H2.out.2.2.size, hc3.size⟩
  have HX3 : Hid (Ext w w3 tag tag3 ∧ Chg (Own tag) w w3) := Lib.hid (by
    have e1 : Ext w1 w2 tag tag2 := H2.out.2.1
    have e2 : Ext w w2 tag tag2 := ext_le e1 HS12.out.1
    have e3 : Ext w w3 tag tag3 := e2.trans H3.out.2.1 (Nat.le_trans HS12.out.1 HS12.out.2.1)
    exact ⟨e3, chg_own (H1.out.2.2.then H2.out.2.2) H3.out.2.2 e2⟩)
  clear hca3 hc3 hc3'
  cases ev with
  | true =>
    simp only [if_true] at HPS
    have CG := Lib.hid (gone_any h3 gn HGN.out (by omega))
    clear h3 he3
    go_wp2_with fail
    refine CG.out.mono ?_; rintro e w4 ⟨rfl, tag4, h4, he4, hc4⟩
    obtain ⟨b, off, cp, A, c, _, y1, y2⟩ := REG.out w4 tag4 _ (by rfl) h4
    have H4 := Lib.hid (And.intro h4 (And.intro he4 hc4))
    clear CG h4 he4 hc4
    go_wp2_with fail
    go_ret
    rw [HPS.out]
    exact ⟨rfl, tag4, H4.out.1, HX3.out.1.trans H4.out.2.1 (Nat.le_trans HS12.out.1 (Nat.le_trans HS12.out.2.1 HS12.out.2.2)), chg_own HX3.out.2 H4.out.2.2 HX3.out.1⟩
  | false =>
    simp only [Bool.false_eq_true, if_false, List.append_nil] at HPS
    obtain ⟨b, off, cp, A, c, _, y1, y2⟩ := REG.out w3 tag3 _ (by rfl) (h3.mono (np' := np + 4) (by omega))
    clear h3 he3
    go_wp2_with fail
    go_ret
    rw [HPS.out]
    exact ⟨rfl, tag3, H3.out.1.mono (np' := np + 4) (by omega), HX3.out.1, HX3.out.2⟩
end
end Go.Proofs.YtgiegkacilfofabDoor
namespace Go.Proofs.YtgiegkacilfofabDoor
set_option linter.unusedVariables false
set_option linter.unusedSimpArgs false
open Go.RowKit Go.Conc

theorem bodyV_len (T : TS) (fn : Nat) (pick : Int) (own : List Int) : (bodyV T fn pick own).1.length ≤ (T.f fn).l.length := by
  unfold bodyV
  split
  · exact forv_le _ _ _ _
  · exact foldv_le _ _ rfl
theorem T_f_mem {T : TS} {fn : Nat} (h : fn < T.fs.length) : T.f fn ∈ T.fs := by
  unfold TS.f
  rw [List.getD_eq_getElem?_getD, List.getElem?_eq_getElem h]
  exact List.getElem_mem h
section
variable {w : World} {tag : Nat → Nat} {m : Nat} {cap : Int} {np : Nat} {x : TAdr} {T : TS}
def EnterP (w : World) (tag : Nat → Nat) (m : Nat) (cap : Int) (np : Nat) (x : TAdr) (r : (List InsR × Bool × Int) × TS) (e : Ending) (w' : World) : Prop :=
  ∃ VB tag', e = .returned (.tuple #[VB, .bool r.1.2.1, .int .i64 r.1.2.2]) ∧ w'.ownsRow 0 44 3 VB r.1.1.length (insCells r.1.1) ∧ (∀ k, VB.ownBlock = some k → w.heap.size ≤ k ∧ tag' k = 0) ∧ TC w' tag' m cap (np + 10) x r.2 ∧ Ext w w' tag tag' ∧ Chg (Own tag) w w'
set_option maxHeartbeats 8000000 in
set_option maxRecDepth 100000 in
theorem enterN_any (h : TC w tag m cap np x T) (hi : TInv cap T) {V : Value} {args : List Int} (ha : NumSrc w V args) (fn : Nat) (hf1 : 1 ≤ fn) (hf : fn < T.fs.length) (hnp : np + 20 < 1048576) :
    Calls Tryd.prog 9 #[.pointer (some ⟨m, 0, none⟩), .int .i64 fn, V] w fun e w' => EnterP w tag m cap np x (enterN cap T fn args) e w' := by
  have CS := Lib.hid (seen_any h fn hf ha)
  obtain ⟨_, Ve, hb, _⟩ := h.box
  obtain ⟨_, A0, c0, hVc⟩ := h.fnsNow.1.bound
  have y0 := cell_of_block hb 0
  have y1 := cell_of_block hb 1
  have y4 := cell_of_block hb 4
  simp at y0 y1 y4
  rw [hVc] at y1
  have hN := h.small.1
  obtain ⟨N, hNN⟩ : ∃ z, z = T.fs.length := ⟨_, rfl⟩
  rw [← hNN] at y1 hN hf
  have t1 : decide ((N : Int) ≤ (fn : Int)) = false := decide_eq_false (by omega)
  have t2 : ¬ (fn : Int) < 1 := by omega
  obtain ⟨own, hown⟩ : ∃ z, z = seenV T fn args := ⟨_, rfl⟩
  rw [← hown] at CS
  have hol : own.length = parV (T.f fn) := by rw [hown, seen_len]
  obtain ⟨hp4, hg4, vals, hP⟩ := h.prof (by omega)
  have HH := Lib.hid h
  have HI := Lib.hid hi
  have HO := Lib.hid (And.intro hown (And.intro hol hNN))
  have HP := Lib.hid (And.intro hP (And.intro hp4 hg4))
  have hpl := h.lt x.p (by rw [hp4]; decide)
  have hgl := h.lt x.g (by rw [hg4]; decide)
  clear h hb hi ha hVc hNN hown hol hP hp4 hg4
  go_enter Tryd.func9, Tryd.ntmps9
  go_wp2_with fail
  refine CS.out.mono ?_; rintro e w1 ⟨b, c, rfl, hb1, hb2, hcs, hbel1⟩
  clear CS
  have h1 := HH.out.kept (Below.chg hbel1) (fun _ _ x => x)
  have CSEE := Lib.hid (psee_any (cap := c) (HP.out.1.kept (Below.chg hbel1) (fun x => x) (fun x => x)) (fn := fn) (b := b) (args := own) (by rw [← HO.out.2.2]; exact hf) (by omega) (by show ((own.length : Nat) : Int) = ((parV (T.f fn) : Nat) : Int); rw [HO.out.2.1]) hcs)
  have H1 := Lib.hid (And.intro h1 (And.intro hb1 (And.intro hb2 (And.intro hcs hbel1))))
  have k4 := (Below.chg hbel1).cell y4 (fun x => x)
  have k0 := (Below.chg hbel1).cell y0 (fun x => x)
  clear h1 hb1 hb2 hcs hbel1 y4 y0 y1
  go_wp2_with fail
  refine CSEE.out.mono ?_; rintro e w2 ⟨rfl, hP2, hc2⟩
  clear CSEE
  have h2 := H1.out.1.prof_chg hc2 HP.out.2.2 hP2
  obtain ⟨_, Ve2, hbx2, _⟩ := h2.box
  have z0 := cell_of_block hbx2 0
  simp at z0
  obtain ⟨nc, hnc, hca⟩ := h2.cache
  have CG := Lib.hid (cache_get_any hca (fn : Int) (WalkArith.wf_i64 (by omega)))
  have H2 := Lib.hid (And.intro h2 (And.intro hP2 hc2))
  clear h2 hP2 hc2 hbx2 hca k4 k0
  go_wp2_with fail
  refine CG.out.mono ?_; rintro e w3 ⟨vg, rfl, hrow3, hfar3, hc3⟩
  clear CG z0
  have h3 := H2.out.1.kept hc3 (fun _ _ x => x)
  have CPK := Lib.hid (pick_any h3)
  have H3 := Lib.hid (And.intro h3 hc3)
  clear h3 hrow3 hfar3 hc3
  obtain ⟨has, hhas⟩ : ∃ z, z = (getl T.cache (fn : Int)).isSome := ⟨_, rfl⟩
  rw [← hhas]
  have HHAS := Lib.hid hhas
  clear hhas
  go_wp2_with fail
  refine CPK.out.mono ?_; rintro e w4 ⟨rfl, h4, hc4⟩
  clear CPK
  obtain ⟨htm, htmp, htch⟩ := h4.ne
  have hP4 := (H2.out.2.1.kept H3.out.2 (fun x => x) (fun x => x)).kept hc4 (fun e => by have h := HP.out.2.1; rw [show x.p = x.ch from e] at h; omega) (fun e => by have h := HP.out.2.2; rw [show x.g = x.ch from e] at h; omega)
  have H4 := Lib.hid (And.intro h4 (And.intro hP4 (And.intro hc4 htch)))
  obtain ⟨_, Ve4, hbx4, _⟩ := h4.box
  have z0 := cell_of_block hbx4 0
  simp at z0
  clear h4 hP4 hc4 hbx4 htm htmp htch
  obtain ⟨pk, hpk⟩ : ∃ z, z = pickV T := ⟨_, rfl⟩
  rw [← hpk]
  have HPK := Lib.hid hpk
  clear hpk
  obtain ⟨ch, hch⟩ : ∃ z, z = (midV cap T fn own).2 := ⟨_, rfl⟩
  obtain ⟨T5, hT5⟩ : ∃ z, z = (midV cap T fn own).1 := ⟨_, rfl⟩
  have HM := Lib.hid (And.intro hch hT5)
  clear hch hT5
  go_upto_block 0 with fail
  go_cut [8] from 49 to 78 (fun v wx => v = .int .i64 ch ∧ Hid (∃ tag5, TC wx tag5 m cap (np + 6) x T5 ∧ Ext w4 wx tag tag5 ∧ Chg (Own tag) w4 wx))
  case first J K' hJ hK' =>
    cases has with
    | false =>
      have hh : hasV T fn = false := by unfold hasV; exact HHAS.out.symm
      by_cases hp : pk = 1 ∨ pk = 2
      · have hmid : midV cap T fn own = (compV cap (pickedV T) fn pk own, 2 * ((T.f fn).l.length : Int)) := by
          unfold midV
          rw [← HPK.out, if_pos ⟨hp, hh⟩]
        have CC := compiles_any H4.out.1 fn (by show fn < T.fs.length; rw [← HO.out.2.2]; exact hf) pk (own := own) H4.out.2.1 (fun i hi => by unfold seenAt; rw [if_pos ⟨rfl, by rw [HO.out.2.1]; exact hi⟩]) (by omega) HI.out.keys (by
          have h1 := bodyV_len (pickedV T) fn pk own
          have h2 := (HH.out.small.2.1 (T.f fn) (T_f_mem (by rw [← HO.out.2.2]; exact hf))).1
          have e : (pickedV T).f fn = T.f fn := rfl
          rw [e] at h1
          omega)
        rw [show (2 * (((pickedV T).f fn).l.length : Int)) = ch by rw [HM.out.1, hmid]; rfl, show compV cap (pickedV T) fn pk own = T5 by rw [HM.out.2, hmid]] at CC
        have CC := Lib.hid CC
        clear hmid hh
        rcases hp with rfl | rfl
        · go_wp2_with fail
          refine CC.out.mono ?_; rintro e w5 ⟨rfl, tag5, h5, he5, hc5⟩
          have H5 := Lib.hid (And.intro h5 (And.intro he5 hc5))
          clear CC h5 he5 hc5
          go_wp2_with fail
          go_meet
          case rel => exact ⟨rfl, Lib.hid ⟨tag5, H5.out.1.mono (by omega), H5.out.2.1, H5.out.2.2⟩⟩
        · go_wp2_with fail
          refine CC.out.mono ?_; rintro e w5 ⟨rfl, tag5, h5, he5, hc5⟩
          have H5 := Lib.hid (And.intro h5 (And.intro he5 hc5))
          clear CC h5 he5 hc5
          go_wp2_with fail
          go_meet
          case rel => exact ⟨rfl, Lib.hid ⟨tag5, H5.out.1.mono (by omega), H5.out.2.1, H5.out.2.2⟩⟩
      · have hmid : midV cap T fn own = (pickedV T, 0) := by
          unfold midV
          rw [← HPK.out, if_neg (fun h => hp h.1), if_neg (by rw [hh]; simp)]
        have hch0 : ch = 0 := by rw [HM.out.1, hmid]
        have HT5 : Hid (T5 = pickedV T) := Lib.hid (by rw [HM.out.2, hmid])
        have hp1 : ¬ pk = 1 := fun e => hp (.inl e)
        have hp2 : ¬ pk = 2 := fun e => hp (.inr e)
        subst hch0
        clear hmid hh hp
        by_cases hp3 : pk = 3
        · go_wp2_with fail
          go_meet
          case rel => exact ⟨rfl, Lib.hid ⟨tag, by rw [HT5.out]; exact H4.out.1.mono (by omega), Ext.refl _ _ _, Chg.refl _ _⟩⟩
        · go_wp2_with fail
          go_meet
          case rel => exact ⟨rfl, Lib.hid ⟨tag, by rw [HT5.out]; exact H4.out.1.mono (by omega), Ext.refl _ _ _, Chg.refl _ _⟩⟩
    | true =>
      have hh : hasV T fn = true := by unfold hasV; exact HHAS.out.symm
      by_cases hp3 : pk = 3
      · have hmid : midV cap T fn own = (dropV (pickedV T) fn, 0) := by
          unfold midV
          rw [← HPK.out, if_neg (by rw [hh]; simp), if_pos ⟨hp3, hh⟩]
        have hch0 : ch = 0 := by rw [HM.out.1, hmid]
        have HT5 : Hid (T5 = dropV (pickedV T) fn) := Lib.hid (by rw [HM.out.2, hmid])
        obtain ⟨nc4, hnc4, hca4⟩ := H4.out.1.cache
        have CD := Lib.hid (cache_drop_any hca4 (fn : Int) (WalkArith.wf_i64 (by omega)))
        subst hch0 hp3
        clear hmid hh hca4
        go_wp2_with fail
        refine CD.out.mono ?_; rintro e w5 ⟨rfl, hca5, hc5⟩
        obtain ⟨tag5, h5, he5⟩ := H4.out.1.cache_chg hc5 (np' := np) (by omega) ⟨nc4, hnc4, hca5.mono (fun k hk => .inl hk)⟩
        have CG2 := Lib.hid (gone_any h5 (fn : Int) (WalkArith.wf_i64 (by omega)) (by omega))
        have H5 : Hid (Ext w4 w5 tag tag5 ∧ Chg (Own tag) w4 w5) := Lib.hid ⟨he5, hc5.mono (fun k _ e => by have e : tag k = 2 := e; show tag k ≠ 0; omega)⟩
        clear CD hca5 hc5 h5 he5
        go_wp2_with fail
        refine CG2.out.mono ?_; rintro e w6 ⟨rfl, tag6, h6, he6, hc6⟩
        have H6 := Lib.hid (And.intro h6 (And.intro he6 hc6))
        clear CG2 h6 he6 hc6
        go_wp2_with fail
        go_meet
        case rel =>
          refine ⟨rfl, Lib.hid ⟨tag6, ?_, H5.out.1.trans H6.out.2.1 H5.out.2.size, chg_own H5.out.2 H6.out.2.2 H5.out.1⟩⟩
          rw [HT5.out]
          exact H6.out.1.mono (by omega)
      · have hmid : midV cap T fn own = (pickedV T, 0) := by
          unfold midV
          rw [← HPK.out, if_neg (by rw [hh]; simp), if_neg (fun h => hp3 h.1)]
        have hch0 : ch = 0 := by rw [HM.out.1, hmid]
        have HT5 : Hid (T5 = pickedV T) := Lib.hid (by rw [HM.out.2, hmid])
        subst hch0
        clear hmid hh
        have hrel : Hid (∃ tag5, TC w4 tag5 m cap (np + 6) x T5 ∧ Ext w4 w4 tag tag5 ∧ Chg (Own tag) w4 w4) := Lib.hid ⟨tag, by rw [HT5.out]; exact H4.out.1.mono (by omega), Ext.refl _ _ _, Chg.refl _ _⟩
        by_cases hp1 : pk = 1
        · go_wp2_with fail
          go_meet
          case rel => exact ⟨rfl, hrel⟩
        · by_cases hp2 : pk = 2
          · go_wp2_with fail
            go_meet
            case rel => exact ⟨rfl, hrel⟩
          · go_wp2_with fail
            go_meet
            case rel => exact ⟨rfl, hrel⟩
  case rest =>
    obtain ⟨rfl, H5⟩ := hcut
    obtain ⟨w5, hw5⟩ : ∃ z : World, z = wc := ⟨_, rfl⟩
    rw [← hw5] at H5 ⊢
    clear hw5 z0 t1 t2
    obtain ⟨tag5, h5, he5, hc5⟩ := H5.out
    have hbt : tag b = 0 := by
      by_cases e : tag b = 0
      · exact e
      · have := HH.out.lt b e
        have := H1.out.2.1
        omega
    have HOWN : Hid (∀ w', Chg (fun _ => False) w5 w' → ∀ j z, own[j]? = some z → w'.cell? ⟨b, j, none⟩ = some (.int .i64 z)) := Lib.hid (fun w' hc j z hz => by
      have a1 := H1.out.2.2.2.1 j z hz
      have a2 := H2.out.2.2.cell a1 (fun e => by have h := HP.out.2.2; rw [← show b = x.g from e] at h; omega)
      have a3 := H3.out.2.cell a2 (fun x => x)
      have a4 := H4.out.2.2.1.cell a3 (fun e => by have h := H4.out.2.2.2; rw [← show b = x.ch from e] at h; omega)
      have a5 := hc5.cell a4 (fun e => e hbt)
      exact hc.cell a5 (fun x => x))
    have HSZ : Hid (w.heap.size ≤ w5.heap.size) := Lib.hid (by
      have a1 := H1.out.2.2.2.2.size
      have a2 := H2.out.2.2.size
      have a3 := H3.out.2.size
      have a4 := H4.out.2.2.1.size
      have a5 := hc5.size
      omega)
    have HC5 : Hid (Chg (Own tag) w w5 ∧ Ext w w5 tag tag5) := Lib.hid (by
      have c1 := (Below.chg H1.out.2.2.2.2).mono (T := Own tag) (fun _ _ x => x.elim)
      have c2 := H2.out.2.2.mono (T := Own tag) (fun k _ e => by have e : k = x.g := e; show tag k ≠ 0; rw [e, HP.out.2.2]; decide)
      have c3 := H3.out.2.mono (T := Own tag) (fun _ _ x => x.elim)
      have c4 := H4.out.2.2.1.mono (T := Own tag) (fun k _ e => by have e : k = x.ch := e; show tag k ≠ 0; rw [e, H4.out.2.2.2]; decide)
      refine ⟨(((c1.then c2).then c3).then c4).then hc5, ext_le he5 ?_⟩
      have a1 := c1.size
      have a2 := c2.size
      have a3 := c3.size
      have a4 := c4.size
      omega)
    have HT5L : Hid (enterN cap T fn args = lastV T5 fn own ch) := Lib.hid (by unfold enterN; rw [← HO.out.1, ← HM.out.1, ← HM.out.2])
    have HI5 : Hid (TInv cap T5 ∧ T5.fs = T.fs) := Lib.hid ⟨by
      rw [HM.out.2]
      exact HI.out.mid HH.out.capok.1 ⟨hf1, by rw [← HO.out.2.2]; exact hf⟩, by
      rw [HM.out.2]
      unfold midV compV putS dropV pickedV
      split
      · rfl
      · split <;> rfl⟩
    have hchb : 0 ≤ ch ∧ ch ≤ 4000000 := by
      have h2 := (HH.out.small.2.1 (T.f fn) (T_f_mem (by rw [← HO.out.2.2]; exact hf))).1
      rw [HM.out.1]
      unfold midV
      split
      · simp only; omega
      · split <;> simp
    obtain ⟨nc5, hnc5, hca5⟩ := h5.cache
    have CG6 := Lib.hid (cache_get_any hca5 (fn : Int) (WalkArith.wf_i64 (by omega)))
    obtain ⟨_, Ve5, hbx5, _⟩ := h5.box
    have z0 := cell_of_block hbx5 0
    simp at z0
    have H5' := Lib.hid h5
    clear H5 h5 he5 hc5 hca5 hbx5 hbt
    obtain ⟨has6, hh6⟩ : ∃ z, z = (getl T5.cache (fn : Int)).isSome := ⟨_, rfl⟩
    obtain ⟨B6, hB6⟩ : ∃ z, z = (getl T5.cache (fn : Int)).getD [] := ⟨_, rfl⟩
    rw [← hh6, ← hB6] at CG6
    have HB6 := Lib.hid (And.intro hh6 hB6)
    clear hh6 hB6
    go_upto_region 12 with fail
    go_upto_region 13 with (refine CG6.out.mono ?_; rintro e w6 ⟨v6, rfl, hrow6, hfar6, hc6⟩)
    have h6 := H5'.out.kept hc6 (fun _ _ x => x)
    have HVB : Hid (∀ k, v6.ownBlock = some k → w.heap.size ≤ k ∧ tag5 k = 0 ∧ k < w6.heap.size) := Lib.hid (fun k hk => by
      have a1 := hfar6 k hk
      have a2 := ownsRow_lt hrow6 k hk
      refine ⟨by have := HSZ.out; omega, ?_, a2⟩
      by_cases e : tag5 k = 0
      · exact e
      · have := H5'.out.lt k e; omega)
    obtain ⟨hmp, nm, hnm, hg⟩ := h6.map
    have hl := gmap_look hg (fn : Int) (WalkArith.wf_i64 (by omega))
    obtain ⟨g0, hg0⟩ : ∃ z, z = ((T5.gd (fn : Int)).getD (0, 0)).1 := ⟨_, rfl⟩
    obtain ⟨g1, hg1⟩ : ∃ z, z = ((T5.gd (fn : Int)).getD (0, 0)).2 := ⟨_, rfl⟩
    obtain ⟨made, hmade⟩ : ∃ z, z = (T5.gd (fn : Int)).isSome := ⟨_, rfl⟩
    have hgv : gval ((T5.gd (fn : Int)).getD (0, 0)) = .agg #[.int .i64 (g0 : Int), .int .i64 g1] := by unfold gval; rw [← hg0, ← hg1]
    rw [hgv, ← hmade] at hl
    obtain ⟨_, Ve6, hbx6, _⟩ := h6.box
    have y5 := cell_of_block hbx6 5
    simp at y5
    obtain ⟨w7, hw7⟩ : ∃ z, z = w6.alloc (.cells #[.int .i64 (g0 : Int), .int .i64 g1] 70) := ⟨_, rfl⟩
    obtain ⟨GB, hGB⟩ : ∃ z, z = w6.heap.size := ⟨_, rfl⟩
    have c67 : Chg (fun _ => False) w6 w7 := by rw [hw7]; exact (Chg.refl _ _).alloc _
    have hgb : w7.heap[GB]? = some (.cells #[.int .i64 (g0 : Int), .int .i64 g1] 70 (0, 0)) := by rw [hw7]; exact heap_new' hGB.symm
    have h7 := h6.kept c67 (fun _ _ x => x)
    have u0 := cell_of_block hgb 0
    have u1 := cell_of_block hgb 1
    simp at u0 u1
    have HW7 := Lib.hid (And.intro hw7 hGB)
    have H7 := Lib.hid (And.intro h7 (And.intro (hc6.then c67) (ownsRow_kept hrow6 c67 (fun _ _ x => x))))
    have HOW7 := Lib.hid (HOWN.out w7 (hc6.then c67))
    have HSZ7 : Hid (w6.heap.size ≤ w7.heap.size ∧ w5.heap.size ≤ w7.heap.size) := Lib.hid ⟨c67.size, (hc6.then c67).size⟩
    have HGD := Lib.hid (And.intro hg0 (And.intro hg1 hmade))
    have HC7 : Hid (Chg (Own tag) w w7 ∧ Ext w w7 tag tag5) := Lib.hid ⟨HC5.out.1.then ((hc6.then c67).mono (fun _ _ x => x.elim)), ⟨HC5.out.2.old, HC5.out.2.new⟩⟩
    clear CG6 hrow6 hfar6 hc6 h6 hmp hnm hg hg0 hg1 hmade hgv hbx6 hw7 hGB c67 hgb h7 z0
    cases has6 with
    | false =>
      have hgl : getl T5.cache (fn : Int) = none := by
        have := HB6.out.1
        cases hq : getl T5.cache (fn : Int) with
        | none => rfl
        | some _ => rw [hq] at this; cases this
      have HLA : Hid (lastV T5 fn own ch = (([], false, ch), T5)) := Lib.hid (by unfold lastV; rw [hgl])
      clear hgl
      go_wp2_with ((try rw [← HW7.out.1]); (try rw [← HW7.out.2]); fail)
      go_ret3
      rw [← HW7.out.1, HT5L.out, HLA.out]
      exact ⟨_, tag5, rfl, World.ownsRow_nil _ _ _ _, (fun k hk => by cases hk), H7.out.1.mono (by omega), HC7.out.2, HC7.out.1⟩
    | true =>
      have hgl : getl T5.cache (fn : Int) = some B6 := by
        have h1 := HB6.out.1
        have h2 := HB6.out.2
        cases hq : getl T5.cache (fn : Int) with
        | none => rw [hq] at h1; cases h1
        | some y => rw [hq] at h2; rw [h2]; rfl
      have HGL := Lib.hid hgl
      clear hgl
      have CN2 : Hid (∀ d, Calls Tryd.prog 25 #[.pointer (some ⟨m, 0, none⟩), .int .i64 2, .int .i64 fn] (w7.drewN d) fun e w' => e = .returned (.tuple #[]) ∧ ∃ tag', TC w' tag' m cap (np + 6 + 1) x (noteV T5 2 fn) ∧ Ext w7 w' tag5 tag' ∧ Chg (Own tag5) w7 w') := Lib.hid (fun d => (note_any (H7.out.1.kept ((Chg.refl (fun _ => False) w7).drewN d) (fun _ _ x => x)) 2 (fn : Int) (by omega)).mono (by rintro e w' ⟨rfl, tag', a, b, c⟩; exact ⟨rfl, tag', a, ⟨b.old, b.new⟩, c.of_drewN⟩))
      have CN3 : Hid (∀ d, Calls Tryd.prog 25 #[.pointer (some ⟨m, 0, none⟩), .int .i64 3, .int .i64 fn] (w7.drewN d) fun e w' => e = .returned (.tuple #[]) ∧ ∃ tag', TC w' tag' m cap (np + 6 + 1) x (noteV T5 3 fn) ∧ Ext w7 w' tag5 tag' ∧ Chg (Own tag5) w7 w') := Lib.hid (fun d => (note_any (H7.out.1.kept ((Chg.refl (fun _ => False) w7).drewN d) (fun _ _ x => x)) 3 (fn : Int) (by omega)).mono (by rintro e w' ⟨rfl, tag', a, b, c⟩; exact ⟨rfl, tag', a, ⟨b.old, b.new⟩, c.of_drewN⟩))
      cases made with
      | false =>
        have hgd : T5.gd (fn : Int) = none := by
          have h3 := HGD.out.2.2
          cases hq : T5.gd (fn : Int) with
          | none => rfl
          | some _ => rw [hq] at h3; cases h3
        have HLA : Hid (lastV T5 fn own ch = ((B6, true, ch), noteV T5 2 fn)) := Lib.hid (by unfold lastV; rw [HGL.out, hgd])
        clear hgd
        go_upto_region 14 with fail
        rw [← HW7.out.1, ← HW7.out.2]
        clear hl y5
        go_upto_region 16 with fail
        go_quiet (fail)
        go_wp2_with fail
        refine (CN2.out _).mono ?_; rintro e w8 ⟨rfl, tag8, h8, he8, hc8⟩
        have H8 := Lib.hid (And.intro h8 (And.intro he8 hc8))
        clear CN2 CN3 h8 he8 hc8
        go_wp2_with fail
        go_ret3
        rw [HT5L.out, HLA.out]
        refine ⟨v6, tag8, rfl, ownsRow_kept H7.out.2.2 H8.out.2.2 (fun k hk e => e (HVB.out k hk).2.1), fun k hk => ⟨(HVB.out k hk).1, ?_⟩, H8.out.1.mono (by omega), HC7.out.2.trans H8.out.2.1 HC7.out.1.size, chg_own HC7.out.1 H8.out.2.2 HC7.out.2⟩
        by_cases e : tag8 k = 0
        · exact e
        · rcases H8.out.2.1.new k e with h | h
          · exact absurd (HVB.out k hk).2.1 h
          · have := (HVB.out k hk).2.2; have := HSZ7.out.1; omega
      | true =>
        have hgd : T5.gd (fn : Int) = some (g0, g1) := by
          have h1 := HGD.out.1
          have h2 := HGD.out.2.1
          have h3 := HGD.out.2.2
          cases hq : T5.gd (fn : Int) with
          | none => rw [hq] at h3; cases h3
          | some y =>
            rw [hq] at h1 h2
            simp only [Option.getD_some] at h1 h2
            rw [h1, h2]
        have hgp : g0 < own.length := by
          have h1 := (HI5.out.1.gd (fn : Int) _ hgd).2
          rw [Int.toNat_natCast] at h1
          rw [HO.out.2.1]
          unfold TS.f at h1 ⊢
          rw [HI5.out.2] at h1
          exact h1
        have hoc := HOW7.out g0 own[g0] (List.getElem?_eq_getElem hgp)
        have HOG : Hid (own.getD g0 0 = own[g0]) := Lib.hid (by rw [List.getD_eq_getElem?_getD, List.getElem?_eq_getElem hgp]; rfl)
        obtain ⟨og, hog⟩ : ∃ z, z = own[g0] := ⟨_, rfl⟩
        rw [← hog] at hoc HOG
        have hol63 : own.length ≤ 9223372036854775807 := by rw [HO.out.2.1]; unfold parV; omega
        obtain ⟨ol, hol⟩ : ∃ z, z = own.length := ⟨_, rfl⟩
        rw [← hol] at hol63 hgp
        have HGDD := Lib.hid hgd
        have HOL := Lib.hid hol
        clear hgd hog
        go_upto_region 14 with fail
        rw [← HW7.out.1, ← HW7.out.2]
        clear hl y5
        rw [← HOL.out]
        clear hol
        by_cases heq : og = g1
        · have HLA : Hid (lastV T5 fn own ch = ((B6, true, ch), noteV T5 2 fn)) := Lib.hid (by unfold lastV; rw [HGL.out, HGDD.out]; simp only; rw [HOG.out, if_pos heq])
          subst heq
          go_upto_region 16 with fail
          go_quiet (fail)
          go_wp2_with fail
          refine (CN2.out _).mono ?_; rintro e w8 ⟨rfl, tag8, h8, he8, hc8⟩
          have H8 := Lib.hid (And.intro h8 (And.intro he8 hc8))
          clear CN2 CN3 h8 he8 hc8
          go_wp2_with fail
          go_ret3
          rw [HT5L.out, HLA.out]
          refine ⟨v6, tag8, rfl, ownsRow_kept H7.out.2.2 H8.out.2.2 (fun k hk e => e (HVB.out k hk).2.1), fun k hk => ⟨(HVB.out k hk).1, ?_⟩, H8.out.1.mono (by omega), HC7.out.2.trans H8.out.2.1 HC7.out.1.size, chg_own HC7.out.1 H8.out.2.2 HC7.out.2⟩
          by_cases e : tag8 k = 0
          · exact e
          · rcases H8.out.2.1.new k e with h | h
            · exact absurd (HVB.out k hk).2.1 h
            · have := (HVB.out k hk).2.2; have := HSZ7.out.1; omega
        · have HLA : Hid (lastV T5 fn own ch = (([], false, ch + 50), noteV T5 3 fn)) := Lib.hid (by unfold lastV; rw [HGL.out, HGDD.out]; simp only; rw [HOG.out, if_neg heq])
          go_upto_region 16 with fail
          go_quiet (fail)
          go_wp2_with fail
          refine (CN3.out _).mono ?_; rintro e w8 ⟨rfl, tag8, h8, he8, hc8⟩
          have H8 := Lib.hid (And.intro h8 (And.intro he8 hc8))
          clear CN2 CN3 h8 he8 hc8
          go_wp2_with fail
          go_ret3
          rw [HT5L.out, HLA.out]
          exact ⟨_, tag8, rfl, World.ownsRow_nil _ _ _ _, (fun k hk => by cases hk), H8.out.1.mono (by omega), HC7.out.2.trans H8.out.2.1 HC7.out.1.size, chg_own HC7.out.1 H8.out.2.2 HC7.out.2⟩
end
end Go.Proofs.YtgiegkacilfofabDoor
namespace Go.Proofs.YtgiegkacilfofabDoor
set_option linter.unusedVariables false
set_option linter.unusedSimpArgs false
open Go.RowKit Go.Conc

section
variable {w : World} {tag : Nat → Nat} {m : Nat} {cap : Int} {np : Nat} {x : TAdr} {T : TS}
set_option maxRecDepth 100000 in
theorem enter_any (h : TC w tag m cap np x T) (hi : TInv cap T) {V : Value} {args : List Int} (ha : NumSrc w V args) (fn : Int) (hnp : np + 20 < 1048576) :
    Calls Tryd.prog 9 #[.pointer (some ⟨m, 0, none⟩), .int .i64 fn, V] w fun e w' => EnterP w tag m cap np x (enterV cap T fn args) e w' := by
  by_cases hf : fn < 1 ∨ (T.fs.length : Int) ≤ fn
  · have hE : enterV cap T fn args = (([], false, 0), T) := by unfold enterV; rw [if_pos hf]
    rw [hE]
    obtain ⟨_, Ve, hb, _⟩ := h.box
    obtain ⟨_, A0, c0, hVc⟩ := h.fnsNow.1.bound
    have y1 := cell_of_block hb 1
    simp at y1
    rw [hVc] at y1
    have hN := h.small.1
    obtain ⟨N, hNN⟩ : ∃ z, z = T.fs.length := ⟨_, rfl⟩
    rw [← hNN] at y1 hN hf
    have HH := Lib.hid h
    clear h hb hi ha hVc hNN hE
    by_cases h1 : fn < 1
    · clear hf
      go_enter Tryd.func9, Tryd.ntmps9
      go_wp2_with fail
      go_ret3
      exact ⟨_, tag, rfl, World.ownsRow_nil _ _ _ _, (fun k hk => by cases hk), HH.out.mono (by omega), Ext.refl _ _ _, Chg.refl _ _⟩
    · have t1 : decide ((N : Int) ≤ fn) = true := decide_eq_true (by omega)
      have t0 : decide (fn < 1) = false := decide_eq_false h1
      clear hf
      go_enter Tryd.func9, Tryd.ntmps9
      go_wp2_with fail
      go_ret3
      exact ⟨_, tag, rfl, World.ownsRow_nil _ _ _ _, (fun k hk => by cases hk), HH.out.mono (by omega), Ext.refl _ _ _, Chg.refl _ _⟩
  · have hE : enterV cap T fn args = enterN cap T fn.toNat args := by unfold enterV; rw [if_neg hf]
    have h2 := enterN_any h hi ha fn.toNat (by omega) (by omega) hnp
    rw [Int.toNat_of_nonneg (by omega)] at h2
    rw [hE]
    exact h2
set_option maxRecDepth 100000 in
theorem events_any (h : TC w tag m cap np x T) (hnp : np ≤ 1048576) :
    Calls Tryd.prog 10 #[.pointer (some ⟨m, 0, none⟩)] w fun e w' => ∃ VE, e = .returned VE ∧ w'.ownsRow 0 41 2 VE T.evs.length (evCells T.evs) ∧ (∀ k, VE.ownBlock = some k → w.heap.size ≤ k) ∧ Chg (fun _ => False) w w' := by
  obtain ⟨_, Ve, hb, hrow, _⟩ := h.box
  have y6 := cell_of_block hb 6
  simp at y6
  have CC := Lib.hid (cloneEv_any (Src.of_row hrow) (by rw [evCells_length]) (evCells_one _) (by have := h.small.2.2; omega))
  clear h hb hrow
  go_enter Tryd.func10, Tryd.ntmps10
  go_wp2_with fail
  refine CC.out.mono ?_; rintro e w1 ⟨v', rfl, h1, h2, h3⟩
  have HR := Lib.hid (And.intro h1 (And.intro h2 h3))
  clear h1 h2 h3 CC
  go_wp2_with fail
  go_ret
  exact ⟨v', rfl, HR.out.1, HR.out.2.1, HR.out.2.2⟩
end
end Go.Proofs.YtgiegkacilfofabDoor
