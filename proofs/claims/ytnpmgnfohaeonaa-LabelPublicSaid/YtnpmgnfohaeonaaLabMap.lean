/- label: a map from names to slices, told as a function; the checker in memory. -/
import Derived.Test.YtnpmgnfohaeonaaLabOf
import Derived.Maps.OwnSet
namespace Go.Proofs.Ytnpmgnfohaeonaa
set_option linter.unusedVariables false
set_option linter.unusedSimpArgs false
open Go.RowKit Go.Maps

theorem Chg.of_grown {w w' : World} {row : Option Nat} (hg : w.grownBy w' row) : Chg (fun k => row = some k) w w' := ⟨hg.os, hg.tape, hg.output, hg.size, fun k hk hn => hg.block k hk (fun e => hn e.symm)⟩
/-- an element is told by itself -/
def selfElem (v : Value) : Option (DataW Value × List MemPlace) := some (.held v, [])
def keyL (s : ByteArray) : Lit := .string s.data.toList
theorem keyL_inj {a b : ByteArray} (h : keyL a = keyL b) : a = b := by
  injection h with h
  obtain ⟨⟨a⟩⟩ := a
  obtain ⟨⟨b⟩⟩ := b
  simp at h
  subst h
  rfl
theorem keyOf_str {s : ByteArray} (h : s.size ≤ 140737488355327) : keyOf Try.prog 9 (.string s) = some (keyL s) := by
  have hs : s.size ≤ maxLen := by unfold maxLen; omega
  simp [keyOf, Try.underlying9, mapKey, hs, keyL]
def MapS (w : World) (b n : Nat) (M : ByteArray → Option Value) : Prop :=
  ∃ D : DataW Value, w.ownsMap Try.prog 9 selfElem b n D ∧ ∀ k : ByteArray, Maps.has D (keyL k) = (M k).isSome ∧ D.atKey (keyL k) (.held (.slice none 0 0)) = .held ((M k).getD (.slice none 0 0))
theorem lawK : Keyed Try.prog 9 := string_keyed Try.underlying9
theorem isKey (k : ByteArray) : WideAt.IsKeyLit (keyL k) := by first | exact trivial | constructor | simp [WideAt.IsKeyLit, keyL]
theorem MapS.made (w : World) : MapS (w.alloc (.map #[] 0)) w.heap.size 0 (fun _ => none) := ⟨.map [], World.ownsMap_made _ _ _ _, fun k => ⟨rfl, rfl⟩⟩
theorem MapS.lt {w : World} {b n : Nat} {M : ByteArray → Option Value} (h : MapS w b n M) : b < w.heap.size := by obtain ⟨D, h, _⟩ := h; exact h.lt
theorem MapS.kept {w w' : World} {T : Nat → Prop} {b n : Nat} {M : ByteArray → Option Value} (h : MapS w b n M) (hc : Chg T w w') (hn : ¬ T b) : MapS w' b n M := by
  obtain ⟨D, ⟨es, clock, hb, r⟩, hM⟩ := h
  exact ⟨D, ⟨es, clock, hc.heap hb hn, r⟩, hM⟩
theorem zeroSS (w : World) : (zeroValue 36).run Try.prog w = .ok (.slice none 0 0) w := by kernel_rfl
theorem MapS.look {w : World} {b n : Nat} {M : ByteArray → Option Value} (h : MapS w b n M) (k : ByteArray) (hk : k.size ≤ 140737488355327) :
    (Instr.lookup 50 (.map (some b)) (.string k) false).run Try.prog w = .ok ((M k).getD (.slice none 0 0)) w := by
  obtain ⟨D, h, hM⟩ := h
  obtain ⟨v, ps, hrun, hv⟩ := h.lookup lawK Try.underlying50 (zeroSS w) (zd := .held (.slice none 0 0)) (zp := []) rfl (keyOf_str hk)
  rw [(hM k).2] at hv
  injection hv with hv
  injection hv with hv _
  injection hv with hv
  rw [hv] at hrun
  exact hrun
theorem MapS.store {w : World} {b n : Nat} {M : ByteArray → Option Value} (h : MapS w b n M) (k : ByteArray) (hk : k.size ≤ 140737488355327) (v : Value) (hn : n < maxLen) :
    ∃ w', (Instr.mapUpdate 50 (.map (some b)) (.string k) v).run Try.prog w = .ok () w' ∧ MapS w' b (n + 1) (fun x => if x = k then some v else M x) ∧ w.grownBy w' (some b) := by
  obtain ⟨D, h, hM⟩ := h
  have hm := h.isMap
  obtain ⟨w', hrun, h', ht⟩ := h.store lawK Try.underlying50 hn (keyOf_str hk) (val := v) (d := .held v) (ps := []) rfl
  refine ⟨w', hrun, ⟨_, h', fun x => ?_⟩, ht.grown⟩
  by_cases e : x = k
  · subst e
    simp only [if_true]
    exact ⟨Maps.has_put_same hm (isKey _) _, Maps.atKey_put_same hm (isKey _) _ _⟩
  · simp only [if_neg e]
    have hne : keyL x ≠ keyL k := fun h => e (keyL_inj h)
    rw [Maps.has_put_other hne, Maps.atKey_put_other hne]
    exact hM x

/-- a row of names -/
def Strs (w : World) (X : Nat → Prop) (A : Option Addr) (c : Nat) (l : List ByteArray) : Prop := RowAt w X 1 A l.length c (fun j => [.string (l.getD j ByteArray.empty)]) ∧ ∀ s ∈ l, s.size ≤ 140737488355327
theorem Strs.kept {w w' : World} {X S : Nat → Prop} {A : Option Addr} {c : Nat} {l : List ByteArray} (h : Strs w X A c l) (hc : Chg S w w') (hn : ∀ k, X k → ¬ S k) : Strs w' X A c l := ⟨h.1.kept hc hn, h.2⟩
theorem Strs.get {w : World} {X : Nat → Prop} {A : Option Addr} {c : Nat} {l : List ByteArray} (h : Strs w X A c l) (j : Nat) (hj : j < l.length) : ∃ b off, A = some ⟨b, off, none⟩ ∧ ∀ wx, Below w.heap.size w wx → wx.cell? ⟨b, off + j, none⟩ = some (.string l[j]) := by
  obtain ⟨b, off, e, hx⟩ := h.1.at_ (by omega)
  refine ⟨b, off, e, fun wx hb => ?_⟩
  have := ((hx j hj).kept (Below.chg hb) (fun _ _ x => x)).2.2 0 _ rfl
  rw [Nat.mul_one, Nat.add_zero] at this
  rw [this, List.getD_eq_getElem?_getD, List.getElem?_eq_getElem hj]
  rfl

/-- the checker at ck -/
structure Ck (w : World) (Y : Nat → Prop) (ck : Nat) (pub : Bool) (prm : ByteArray → List ByteArray) : Prop where
  ex : ∃ m n M, w.heap[ck]? = some (.cells #[.map (some m), .bool pub] 56 (0, 0)) ∧ MapS w m n M ∧ Y ck ∧ Y m ∧
    ∀ name : ByteArray, ∃ A c X, (M name).getD (.slice none 0 0) = .slice A (prm name).length c ∧ Strs w X A c (prm name) ∧ ∀ k, X k → Y k
theorem Ck.kept {w w' : World} {Y S : Nat → Prop} {ck : Nat} {pub : Bool} {prm : ByteArray → List ByteArray} (h : Ck w Y ck pub prm) (hc : Chg S w w') (hn : ∀ k, Y k → ¬ S k) : Ck w' Y ck pub prm := by
  obtain ⟨m, n, M, h1, h2, h3, h4, h5⟩ := h.ex
  exact ⟨m, n, M, hc.heap h1 (hn _ h3), h2.kept hc (hn _ h4), h3, h4, fun name => by
    obtain ⟨A, c, X, g1, g2, g3⟩ := h5 name
    exact ⟨A, c, X, g1, g2.kept hc (fun k hk => hn k (g3 k hk)), g3⟩⟩
theorem Ck.keep {w w' : World} {Y : Nat → Prop} {ck : Nat} {pub : Bool} {prm : ByteArray → List ByteArray} (h : Ck w Y ck pub prm) (hb : Below w.heap.size w w') : Ck w' Y ck pub prm := h.kept (Below.chg hb) (fun _ _ x => x)
theorem Ck.look {w : World} {Y : Nat → Prop} {ck : Nat} {pub : Bool} {prm : ByteArray → List ByteArray} (h : Ck w Y ck pub prm) (name : ByteArray) (hs : name.size ≤ 140737488355327) :
    ∃ m A c X, Strs w X A c (prm name) ∧ ∀ wx, Below w.heap.size w wx → wx.cell? ⟨ck, 0, none⟩ = some (.map (some m)) ∧ wx.cell? ⟨ck, 1, none⟩ = some (.bool pub) ∧ (Instr.lookup 50 (.map (some m)) (.string name) false).run Try.prog wx = .ok (.slice A (prm name).length c) wx := by
  obtain ⟨m, n, M, h1, h2, h3, h4, h5⟩ := h.ex
  obtain ⟨A, c, X, g1, g2, g3⟩ := h5 name
  refine ⟨m, A, c, X, g2, fun wx hb => ?_⟩
  have hk := (Below.chg hb).heap h1 (fun x => x)
  have hl := (h2.kept (Below.chg hb) (fun x => x)).look name hs
  rw [g1] at hl
  exact ⟨cell_of_block hk 0, cell_of_block hk 1, hl⟩
theorem Ck.pub {w : World} {Y : Nat → Prop} {ck : Nat} {pub : Bool} {prm : ByteArray → List ByteArray} (h : Ck w Y ck pub prm) : ∀ wx, Below w.heap.size w wx → wx.cell? ⟨ck, 1, none⟩ = some (.bool pub) := by
  obtain ⟨m, n, M, h1, h2, h3, h4, h5⟩ := h.ex
  exact fun wx hb => cell_of_block ((Below.chg hb).heap h1 (fun x => x)) 1
end Go.Proofs.Ytnpmgnfohaeonaa
