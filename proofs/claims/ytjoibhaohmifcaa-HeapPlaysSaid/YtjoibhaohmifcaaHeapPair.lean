/- The program's heap and the document's, side by side. -/
import Derived.Test.YtjoibhaohmifcaaHeapTwo
import Derived.Test.YtjoibhaohmifcaaRefHeap
namespace Go.Proofs.Ytjoibhaohmifcaa
set_option linter.unusedVariables false
set_option linter.unusedSimpArgs false
open Go.RowKit Go.Deep

/-- the sizes of the arrays -/
def szs (xss : List (List Int)) : List Int := xss.map fun xs => (xs.length : Int)
/-- the document's puts tell the same cells -/
structure Agr (xss : List (List Int)) (puts : List PutR) : Prop where
  cell : ∀ id i x, cellv xss id i = some x → lastp puts id i = x
  ids : ∀ p ∈ puts, p.id < xss.length

theorem foldl_add (l : List Int) (a : Int) : l.foldl (· + ·) a = a + l.foldl (· + ·) 0 := by
  induction l generalizing a with
  | nil => simp
  | cons x l ih => simp only [List.foldl_cons]; rw [ih, ih (0 + x)]; omega
theorem sumL_total (xss : List (List Int)) : sumL (szs xss) = total xss := by
  unfold sumL total szs
  induction xss with
  | nil => rfl
  | cons x xs ih =>
    simp only [List.map_cons, List.foldl_cons, List.sum_cons]
    rw [foldl_add, ih]
    omega
theorem szs_append (a b : List (List Int)) : szs (a ++ b) = szs a ++ szs b := by simp [szs]
theorem szs_take (a : List (List Int)) (j : Nat) : (szs a).take j = szs (a.take j) := by simp [szs, List.map_take]
theorem szs_length (a : List (List Int)) : (szs a).length = a.length := by simp [szs]
theorem total_take_le (xss : List (List Int)) (j : Nat) : total (xss.take j) ≤ total xss := by
  have h := total_append (xss.take j) (xss.drop j)
  rw [List.take_append_drop] at h
  have := total_nonneg (xss.drop j)
  omega
theorem szsOk {xss : List (List Int)} (h : total xss ≤ 1048576) (hl : (xss.length : Int) ≤ 1048576) : SizesOk (szs xss) := by
  refine ⟨fun j _ => ?_, by rw [szs_length]; omega⟩
  rw [szs_take, sumL_total]
  exact ⟨total_nonneg _, Int.le_trans (total_take_le _ _) h⟩
theorem rlenv_szs (xss : List (List Int)) (id : Int) : rlenv (szs xss) id = (lenv xss id : Int) := by
  unfold rlenv lenv szs
  by_cases h : 0 ≤ id
  · rw [if_pos h, if_pos h]
    simp only [List.getD_eq_getElem?_getD, List.getElem?_map]
    cases xss[id.toNat]? <;> rfl
  · rw [if_neg h, if_neg h]; rfl
theorem cellv_isSome (xss : List (List Int)) (id i : Int) : (cellv xss id i).isSome = decide (0 ≤ i ∧ i < rlenv (szs xss) id) := by
  rw [rlenv_szs]
  unfold cellv lenv
  by_cases h : 0 ≤ id
  · by_cases h2 : 0 ≤ i
    · rw [if_pos ⟨h, h2⟩, if_pos h]
      cases hx : xss[id.toNat]? with
      | none => simp <;> omega
      | some xs =>
        simp only [Option.bind_some, Option.getD_some]
        by_cases h3 : i < xs.length
        · have : i.toNat < xs.length := by omega
          simp [h2, h3, this]
        · have : xs.length ≤ i.toNat := by omega
          simp [h3, this]
    · rw [if_neg (fun x => h2 x.2), decide_eq_false (fun x => h2 x.1)]; rfl
  · rw [if_neg (fun x => h x.1), if_neg h, decide_eq_false (by omega)]; rfl
theorem Agr.get {xss : List (List Int)} {puts : List PutR} (h : Agr xss puts) (id i : Int) : (if 0 ≤ i ∧ i < rlenv (szs xss) id then lastp puts id i else 0) = (cellv xss id i).getD 0 := by
  have hs := cellv_isSome xss id i
  cases hc : cellv xss id i with
  | none => rw [hc] at hs; rw [if_neg (by simpa using hs.symm)]; rfl
  | some x => rw [hc] at hs; rw [if_pos (by simpa using hs.symm), h.cell _ _ _ hc]; rfl
theorem make_same (q : Int) (xss : List (List Int)) (n a b : Int) (yss : List (List Int)) (h : makev (clampq q) xss n = (a, b, yss)) : rmakev q (szs xss) n = (a, b, szs yss) := by
  unfold makev at h
  unfold rmakev
  rw [sumL_total, szs_length]
  by_cases h1 : n < 1 ∨ 4096 < n
  · rw [if_pos h1] at h ⊢
    injection h with e1 h
    injection h with e2 e3
    subst e1 e2 e3
    rfl
  · rw [if_neg h1] at h ⊢
    by_cases h2 : clampq q - total xss < n
    · rw [if_pos h2] at h
      rw [if_pos (by omega)]
      injection h with e1 h
      injection h with e2 e3
      subst e1 e2 e3
      rfl
    · rw [if_neg h2] at h
      rw [if_neg (by omega)]
      injection h with e1 h
      injection h with e2 e3
      subst e1 e2 e3
      rw [szs_append]
      have : szs [List.replicate n.toNat 0] = [n] := by simp [szs]; omega
      rw [this]
theorem lastp_none {puts : List PutR} {id i : Int} (h : ∀ p ∈ puts, p.id ≠ id) : lastp puts id i = 0 := by
  have e : puts.reverse.find? (·.is id i) = none := by
    rw [List.find?_eq_none]
    intro p hp
    simp only [PutR.is, Bool.and_eq_true, beq_iff_eq, not_and]
    intro e
    exact absurd e (h p (List.mem_reverse.1 hp))
  unfold lastp
  simp only [e]
theorem Agr.make {q : Int} {xss : List (List Int)} {puts : List PutR} (h : Agr xss puts) {n a b : Int} {yss : List (List Int)} (hm : makev q xss n = (a, b, yss)) : Agr yss puts := by
  unfold makev at hm
  split at hm
  · injection hm with _ hm; injection hm with _ hm; subst hm; exact h
  split at hm
  · injection hm with _ hm; injection hm with _ hm; subst hm; exact h
  injection hm with _ hm; injection hm with _ hm; subst hm
  refine ⟨fun id i x hc => ?_, fun p hp => by have := h.ids p hp; simp; omega⟩
  have hc0 := hc
  unfold cellv at hc
  split at hc
  · rename_i hp
    rcases Nat.lt_trichotomy id.toNat xss.length with h1 | h1 | h1
    · rw [List.getElem?_append_left h1] at hc
      exact h.cell id i x (by unfold cellv; rw [if_pos hp]; exact hc)
    · rw [List.getElem?_append_right (by omega), h1] at hc
      simp only [Nat.sub_self, List.getElem?_cons_zero, Option.bind_some, List.getElem?_replicate] at hc
      split at hc
      · injection hc with hc; rw [lastp_none (fun p hp' => by have := h.ids p hp'; omega)]; exact hc
      · cases hc
    · rw [List.getElem?_eq_none (by simp; omega)] at hc
      cases hc
  · cases hc
theorem szs_set (xss : List (List Int)) (id i v : Int) : szs (setv xss id i v) = szs xss := by
  unfold setv szs
  split
  · apply List.ext_getElem?
    intro t
    simp only [List.getElem?_map, List.getElem?_modify]
    cases xss[t]? with
    | none => rfl
    | some xs => by_cases e : id.toNat = t <;> simp [e]
  · rfl
theorem cellv_set (xss : List (List Int)) (id i v a b x : Int) (hs : (cellv xss id i).isSome = true) (h : cellv (setv xss id i v) a b = some x) : if a = id ∧ b = i then x = v else cellv xss a b = some x := by
  unfold cellv at hs
  split at hs
  · rename_i hp
    unfold setv cellv at h
    rw [if_pos hp] at h
    split at h
    · rename_i hq
      simp only [List.getElem?_modify] at h
      cases hx : xss[a.toNat]? with
      | none => rw [hx] at h; cases h
      | some xs =>
        rw [hx] at h
        by_cases e : a = id
        · subst e
          have h : (xs.set i.toNat v)[b.toNat]? = some x := by simpa using h
          rw [List.getElem?_set] at h
          by_cases e2 : b = i
          · subst e2
            rw [if_pos ⟨rfl, rfl⟩]
            simp only [if_true] at h
            split at h
            · injection h with h; exact h.symm
            · cases h
          · rw [if_neg (fun y => e2 y.2)]
            rw [if_neg (by omega)] at h
            unfold cellv
            rw [if_pos hq, hx]
            exact h
        · rw [if_neg (fun y => e y.1)]
          have : ¬ id.toNat = a.toNat := by omega
          simp only [this, if_false, Option.map_some, Option.bind_some] at h
          unfold cellv
          rw [if_pos hq, hx]
          simpa using h
    · cases h
  · cases hs
theorem Agr.set {xss : List (List Int)} {puts : List PutR} (h : Agr xss puts) {id i v : Int} (hs : (cellv xss id i).isSome = true) : Agr (setv xss id i v) (puts ++ [⟨id, i, v⟩]) := by
  refine ⟨fun a b x hc => ?_, fun p hp => ?_⟩
  · have := cellv_set xss id i v a b x hs hc
    rw [lastp_snoc]
    by_cases e : a = id ∧ b = i
    · rw [if_pos e] at this
      rw [if_pos (by simp [PutR.is, e.1, e.2])]
      exact this.symm
    · rw [if_neg e] at this
      rw [if_neg (by simp only [PutR.is, Bool.and_eq_true, beq_iff_eq]; exact fun y => e ⟨y.1.symm, y.2.symm⟩)]
      exact h.cell _ _ _ this
  · have hl : (setv xss id i v).length = xss.length := by have := szs_set xss id i v; have := congrArg List.length this; rw [szs_length, szs_length] at this; exact this
    rw [hl]
    rcases List.mem_append.1 hp with hp | hp
    · exact h.ids p hp
    · rw [List.mem_singleton] at hp
      subst hp
      unfold cellv at hs
      split at hs
      · cases hx : xss[id.toNat]? with
        | none => rw [hx] at hs; cases hs
        | some xs => have := (List.getElem?_eq_some_iff.1 hx).1; simp only; omega
      · cases hs

/-- both in memory -/
structure Pl (w0 w : World) (X : Nat → Prop) (g r : Nat) (q : Int) (xss : List (List Int)) (sizes : List Int) (puts : List PutR) : Prop where
  bel : Below w0.heap.size w0 w
  xlt : ∀ k, X k → k < w.heap.size
  sets : ∃ (A B : Nat → Prop) (vs vp : Value), HeapIs w A g (clampq q) xss ∧ RSt w B r q vs vp sizes puts ∧ (∀ k, A k → ¬ B k) ∧ (∀ k, A k → w0.heap.size ≤ k ∧ ¬ X k) ∧ (∀ k, B k → w0.heap.size ≤ k ∧ ¬ X k)

theorem Pl.of_HB {w0 w : World} {g : Nat} {q q0 : Int} (hq : q0 = clampq q) (h : HB w0 w g q0 []) : Pl w0 (w.alloc (.cells #[.int .i64 q, .slice none 0 0, .slice none 0 0] 30)) (fun _ => False) g w.heap.size q [] [] [] := by
  subst hq
  have hc : Chg (fun _ => False) w (w.alloc (.cells #[.int .i64 q, .slice none 0 0, .slice none 0 0] 30)) := (Chg.refl _ _).alloc _
  refine ⟨h.bel.trans (hc.to_below.mono h.bel.size), fun _ x => x.elim, fun k => w0.heap.size ≤ k ∧ k < w.heap.size, fun k => w.heap.size ≤ k, .slice none 0 0, .slice none 0 0, h.is.bound.kept hc (fun _ _ x => x), ?_, fun k hk => by omega, fun k hk => ⟨hk.1, fun x => x⟩, fun k hk => ⟨Nat.le_trans h.bel.size hk, fun x => x⟩⟩
  exact ⟨Nat.le_refl _, heap_new _ _, World.ownsRow_nil _ _ _ _, World.ownsRow_nil _ _ _ _, (fun k hk => by cases hk), (fun k hk => by cases hk), (fun k hk => by cases hk)⟩
theorem Pl.chg {w0 w w' : World} {g r : Nat} {q : Int} {xss : List (List Int)} {sizes : List Int} {puts : List PutR} (h : Pl w0 w (fun _ => False) g r q xss sizes puts) (hc : Chg (fun _ => False) w w') (b : Nat) (hg : w.heap.size ≤ b) (hg2 : b < w'.heap.size) : Pl w0 w' (fun k => k = b) g r q xss sizes puts := by
  obtain ⟨hb, hx, A, B, vs, vp, h1, h2, h3, h4, h5⟩ := h
  exact ⟨hb.trans (hc.to_below.mono hb.size), fun k hk => by omega, _, _, vs, vp, h1.bound.kept hc (fun _ _ x => x), h2.bound.kept hc (fun _ _ x => x), fun k hk hn => h3 k hk.1 hn.1, fun k hk => ⟨(h4 k hk.1).1, by omega⟩, fun k hk => ⟨(h5 k hk.1).1, by omega⟩⟩
theorem Pl.free {w0 w : World} {X : Nat → Prop} {g r : Nat} {q : Int} {xss : List (List Int)} {sizes : List Int} {puts : List PutR} (h : Pl w0 w X g r q xss sizes puts) : Pl w0 w (fun _ => False) g r q xss sizes puts := by
  obtain ⟨hb, hx, A, B, vs, vp, h1, h2, h3, h4, h5⟩ := h
  exact ⟨hb, fun _ x => x.elim, A, B, vs, vp, h1, h2, h3, fun k hk => ⟨(h4 k hk).1, fun x => x⟩, fun k hk => ⟨(h5 k hk).1, fun x => x⟩⟩
theorem Pl.drewN {w0 w : World} {X : Nat → Prop} {g r : Nat} {q : Int} {xss : List (List Int)} {sizes : List Int} {puts : List PutR} (h : Pl w0 w X g r q xss sizes puts) (n : Nat) : Pl w0 (w.drewN n) X g r q xss sizes puts := by
  obtain ⟨hb, hx, A, B, vs, vp, h1, h2, h3⟩ := h
  exact ⟨⟨hb.os, hb.tape, hb.output, hb.size, hb.block⟩, hx, A, B, vs, vp, HeapIs.of_heap (w := w) (w' := w.drewN n) rfl h1, RSt.of_heap (w := w) (w' := w.drewN n) rfl h2, h3⟩
/-- a call on the document's heap changed no other's -/
theorem Pl.same {w0 w w' : World} {X : Nat → Prop} {g r : Nat} {q : Int} {xss : List (List Int)} {sizes : List Int} {puts : List PutR} (h : Pl w0 w X g r q xss sizes puts) (hc : Chg (fun _ => False) w w') : Pl w0 w' X g r q xss sizes puts := by
  obtain ⟨hb, hx, A, B, vs, vp, h1, h2, h3, h4, h5⟩ := h
  exact ⟨hb.trans (hc.to_below.mono hb.size), fun k hk => Nat.lt_of_lt_of_le (hx k hk) hc.size, A, B, vs, vp, h1.kept hc (fun _ _ x => x), h2.kept hc (fun _ _ x => x), h3, h4, h5⟩
theorem Pl.ok {w0 w : World} {X : Nat → Prop} {g r : Nat} {q : Int} {xss : List (List Int)} {sizes : List Int} {puts : List PutR} (h : Pl w0 w X g r q xss sizes puts) : total xss ≤ 1048576 ∧ (xss.length : Int) ≤ 1048576 := by
  obtain ⟨_, _, A, B, vs, vp, h1, _⟩ := h
  obtain ⟨v, ars, F, fb, fo, fl, h, hx, hl⟩ := h1
  have := length_le_total xss (fun xs hxs => by
    rw [hx] at hxs
    obtain ⟨a, ha, rfl⟩ := List.mem_map.1 hxs
    exact (h.arr a ha).1)
  omega

section
variable {w0 w : World} {X : Nat → Prop} {g r : Nat} {q : Int} {xss : List (List Int)} {sizes : List Int} {puts : List PutR}
theorem Pl.makeA (h : Pl w0 w X g r q xss sizes puts) (n : Int) (a b : Int) (yss : List (List Int)) (hv : makev (clampq q) xss n = (a, b, yss)) :
    Calls Try.prog 11 #[.pointer (some ⟨g, 0, none⟩), .int .i64 n] w fun e w' => e = .returned (.tuple #[.int .i64 a, .int .i64 b]) ∧ Pl w0 w' X g r q yss sizes puts ∧ Chg (fun k => w0.heap.size ≤ k ∧ ¬ X k) w w' := by
  obtain ⟨hb, hx, A, B, vs, vp, h1, h2, h3, h4, h5⟩ := h
  refine (make_at h1.bound n a b yss hv).mono ?_
  rintro e w' ⟨rfl, h6, hc⟩
  refine ⟨rfl, ⟨hb.trans (hc.below (fun k hk => (h4 k hk.1).1) hb.size), fun k hk => Nat.lt_of_lt_of_le (hx k hk) hc.size, _, _, vs, vp, h6, h2.bound.kept hc (fun k hk hn => h3 k hn.1 hk.1), ?_, ?_, fun k hk => h5 k hk.1⟩, hc.mono (fun k _ hk => h4 k hk.1)⟩
  · rintro k (hk | hk) hn
    · exact h3 k hk.1 hn.1
    · omega
  · rintro k (hk | hk)
    · exact h4 k hk.1
    · exact ⟨Nat.le_trans hb.size hk, fun hX => by have := hx k hX; omega⟩
theorem Pl.makeB {yss : List (List Int)} (h : Pl w0 w X g r q yss (szs xss) puts) (hx : total xss ≤ 1048576 ∧ (xss.length : Int) ≤ 1048576) (n : Int) (a b : Int) (hv : makev (clampq q) xss n = (a, b, yss)) :
    Calls Try.prog 12 #[.pointer (some ⟨r, 0, none⟩), .int .i64 n] w fun e w' => e = .returned (.tuple #[.int .i64 a, .int .i64 b]) ∧ Pl w0 w' X g r q yss (szs yss) puts ∧ Chg (fun k => w0.heap.size ≤ k ∧ ¬ X k) w w' := by
  have hs := szsOk hx.1 hx.2
  have hr := make_same q xss n a b yss hv
  unfold rmakev at hr
  by_cases h1 : n < 1 ∨ 4096 < n
  · rw [if_pos h1] at hr
    injection hr with e1 hr
    injection hr with e2 e3
    subst e1 e2
    rw [e3] at h
    refine (rmake_arg r n w h1).mono ?_
    rintro e w' ⟨rfl, rfl⟩
    exact ⟨rfl, h, Chg.refl _ _⟩
  rw [if_neg h1] at hr
  by_cases h2 : clampq q < sumL (szs xss) + n
  · rw [if_pos h2] at hr
    injection hr with e1 hr
    injection hr with e2 e3
    subst e1 e2
    rw [e3] at h hs h2
    have h' := h
    obtain ⟨hb, hx, A, B, vs, vp, i1, i2, _⟩ := h
    refine (rmake_quota i2 n hs (by omega) (by omega) h2).mono ?_
    rintro e w' ⟨rfl, hc⟩
    exact ⟨rfl, h'.same hc, hc.mono (fun _ _ x => x.elim)⟩
  rw [if_neg h2] at hr
  injection hr with e1 hr
  injection hr with e2 e3
  subst e1 e2
  have h' := h
  obtain ⟨hb, hx, A, B, vs, vp, i1, i2, j1, j2, j3⟩ := h
  refine (rmake_ok i2.bound n hs (by omega) (by omega) h2).mono ?_
  rintro e w' ⟨rfl, vs', i3, hc⟩
  rw [e3] at i3
  refine ⟨rfl, ⟨hb.trans (hc.below (fun k hk => (j3 k hk.1).1) hb.size), fun k hk => Nat.lt_of_lt_of_le (hx k hk) hc.size, _, _, vs', vp, i1.bound.kept hc (fun k hk hn => j1 k hk.1 hn.1), i3, ?_, fun k hk => j2 k hk.1, ?_⟩, hc.mono (fun k _ hk => j3 k hk.1)⟩
  · rintro k hk (hn | hn)
    · exact j1 k hk.1 hn.1
    · omega
  · rintro k (hk | hk)
    · exact j3 k hk.1
    · exact ⟨Nat.le_trans hb.size hk, fun hX => by have := hx k hX; omega⟩
theorem Pl.setA (h : Pl w0 w X g r q xss sizes puts) (id i y : Int) (b : Bool) (yss : List (List Int)) (hv : (cellv xss id i).isSome = b ∧ setv xss id i y = yss) :
    Calls Try.prog 13 #[.pointer (some ⟨g, 0, none⟩), .int .i64 id, .int .i64 i, .int .i64 y] w fun e w' => e = .returned (.bool b) ∧ Pl w0 w' X g r q yss sizes puts ∧ Chg (fun k => w0.heap.size ≤ k ∧ ¬ X k) w w' := by
  obtain ⟨hb, hx, A, B, vs, vp, h1, h2, h3, h4, h5⟩ := h
  refine (set_at h1 id i y b yss hv).mono ?_
  rintro e w' ⟨rfl, h6, hc⟩
  exact ⟨rfl, ⟨hb.trans (hc.below (fun k hk => (h4 k hk).1) hb.size), fun k hk => Nat.lt_of_lt_of_le (hx k hk) hc.size, A, B, vs, vp, h6, h2.kept hc (fun k hk hn => h3 k hn hk), h3, h4, h5⟩, hc.mono (fun k _ hk => h4 k hk)⟩
theorem Pl.setB {yss : List (List Int)} (h : Pl w0 w X g r q yss (szs xss) puts) (hx : total xss ≤ 1048576 ∧ (xss.length : Int) ≤ 1048576) (ha : Agr xss puts) (hp : puts.length ≤ 1048576) (id i y : Int) (b : Bool) (hv : (cellv xss id i).isSome = b ∧ setv xss id i y = yss) :
    Calls Try.prog 14 #[.pointer (some ⟨r, 0, none⟩), .int .i64 id, .int .i64 i, .int .i64 y] w fun e w' => e = .returned (.bool b) ∧ ∃ puts', puts'.length ≤ puts.length + 1 ∧ Agr yss puts' ∧ Pl w0 w' X g r q yss (szs yss) puts' ∧ Chg (fun k => w0.heap.size ≤ k ∧ ¬ X k) w w' := by
  have hl : (szs xss).length ≤ 1048576 := by rw [szs_length]; omega
  obtain ⟨hv1, hv2⟩ := hv
  have hsz : szs yss = szs xss := by rw [← hv2, szs_set]
  rw [hsz]
  cases b with
  | false =>
    have hyx : yss = xss := by rw [← hv2]; exact setv_none (by simpa using hv1) y
    rw [cellv_isSome] at hv1
    have h' := h
    obtain ⟨hb, hx, A, B, vs, vp, i1, i2, j1, j2, j3⟩ := h
    refine (rset_out i2 id i y hl (by simpa using hv1)).mono ?_
    rintro e w' ⟨rfl, rfl⟩
    exact ⟨rfl, puts, by omega, by rw [hyx]; exact ha, h', Chg.refl _ _⟩
  | true =>
    have hag := ha.set (v := y) hv1
    rw [hv2] at hag
    rw [cellv_isSome] at hv1
    have hv1 := of_decide_eq_true hv1
    have h' := h
    obtain ⟨hb, hx, A, B, vs, vp, i1, i2, j1, j2, j3⟩ := h
    refine (rset_in i2.bound id i y hl hp hv1.1 hv1.2).mono ?_
    rintro e w' ⟨rfl, vp', i3, hc⟩
    refine ⟨rfl, _, by simp, hag, ⟨hb.trans (hc.below (fun k hk => (j3 k hk.1).1) hb.size), fun k hk => Nat.lt_of_lt_of_le (hx k hk) hc.size, _, _, vs, vp', i1.bound.kept hc (fun k hk hn => j1 k hk.1 hn.1), i3, ?_, fun k hk => j2 k hk.1, ?_⟩, hc.mono (fun k _ hk => j3 k hk.1)⟩
    · rintro k hk (hn | hn)
      · exact j1 k hk.1 hn.1
      · omega
    · rintro k (hk | hk)
      · exact j3 k hk.1
      · exact ⟨Nat.le_trans hb.size hk, fun hX => by have := hx k hX; omega⟩
theorem Pl.getA (h : Pl w0 w X g r q xss sizes puts) (id i : Int) (a : Int) (b : Bool) (hv : (cellv xss id i).getD 0 = a ∧ (cellv xss id i).isSome = b) :
    Calls Try.prog 15 #[.pointer (some ⟨g, 0, none⟩), .int .i64 id, .int .i64 i] w fun e w' => e = .returned (.tuple #[.int .i64 a, .bool b]) ∧ w = w' := by
  obtain ⟨hb, hx, A, B, vs, vp, h1, _⟩ := h
  exact get_at h1 id i a b hv
theorem Pl.getB (h : Pl w0 w X g r q xss (szs xss) puts) (ha : Agr xss puts) (id i : Int) (a : Int) (b : Bool) (hv : (cellv xss id i).getD 0 = a ∧ (cellv xss id i).isSome = b) :
    Calls Try.prog 16 #[.pointer (some ⟨r, 0, none⟩), .int .i64 id, .int .i64 i] w fun e w' => e = .returned (.tuple #[.int .i64 a, .bool b]) ∧ Pl w0 w' X g r q xss (szs xss) puts ∧ Chg (fun k => w0.heap.size ≤ k ∧ ¬ X k) w w' := by
  have h' := h
  have hl : (szs xss).length ≤ 1048576 := by have := h.ok; rw [szs_length]; omega
  obtain ⟨hb, hx, A, B, vs, vp, h1, h2, _⟩ := h
  have := rget_any (w0 := w) h2 id i hl
  rw [ha.get, ← cellv_isSome, hv.1, hv.2] at this
  refine this.mono ?_
  rintro e w' ⟨rfl, hc⟩
  exact ⟨rfl, h'.same hc, hc.mono (fun _ _ x => x.elim)⟩
theorem Pl.lenA (h : Pl w0 w X g r q xss sizes puts) (id n : Int) (hv : (lenv xss id : Int) = n) :
    Calls Try.prog 19 #[.pointer (some ⟨g, 0, none⟩), .int .i64 id] w fun e w' => e = .returned (.int .i64 n) ∧ w' = w := by
  obtain ⟨hb, hx, A, B, vs, vp, h1, _⟩ := h
  have := heap_len_any h1 id
  rw [hv] at this
  exact this.mono fun e w' ⟨a, b⟩ => ⟨a, b.symm⟩
theorem Pl.usedA (h : Pl w0 w X g r q xss sizes puts) (n : Int) (hv : total xss = n) :
    Calls Try.prog 17 #[.pointer (some ⟨g, 0, none⟩)] w fun e w' => e = .returned (.int .i64 n) ∧ w' = w := by
  obtain ⟨hb, hx, A, B, vs, vp, h1, _⟩ := h
  exact (used_at h1 n hv).mono fun e w' ⟨a, b⟩ => ⟨a, b.symm⟩
theorem Pl.lenB (h : Pl w0 w X g r q xss (szs xss) puts) (id n : Int) (hv : (lenv xss id : Int) = n) :
    Calls Try.prog 20 #[.pointer (some ⟨r, 0, none⟩), .int .i64 id] w fun e w' => e = .returned (.int .i64 n) ∧ w' = w := by
  have hl : (szs xss).length ≤ 1048576 := by have := h.ok; rw [szs_length]; omega
  obtain ⟨hb, hx, A, B, vs, vp, h1, h2, _⟩ := h
  have := rlen_any h2 id hl
  rw [rlenv_szs, hv] at this
  exact this
theorem Pl.usedB (h : Pl w0 w X g r q xss (szs xss) puts) (n : Int) (hv : total xss = n) :
    Calls Try.prog 18 #[.pointer (some ⟨r, 0, none⟩)] w fun e w' => e = .returned (.int .i64 n) ∧ w' = w := by
  have hk := h.ok
  have hs := szsOk hk.1 hk.2
  obtain ⟨hb, hx, A, B, vs, vp, h1, h2, _⟩ := h
  have := rused_any h2 hs.1 hs.2
  rw [sumL_total, hv] at this
  exact this
end
end Go.Proofs.Ytjoibhaohmifcaa
