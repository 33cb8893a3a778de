/- The texts TFull, TM2, TTwo in one. -/
import Derived.Test.YtgiegkacilfofabDoorTierV
import Derived.Test.YtgiegkacilfofabDoorFoldLe
import Derived.Test.YtgiegkacilfofabDoorTierS
import Derived.Test.YtgiegkacilfofabDoorTierSh
namespace Go.Proofs.YtgiegkacilfofabDoor
set_option linter.unusedVariables false
set_option linter.unusedSimpArgs false
open Go.RowKit

theorem i64_wrapT (n : Int) : IntKind.i64.wrap n = wrap64 n := by unfold wrap64; rw [IntKind.wrap_i64]
theorem tmod_in {a b : Int} (h : In64 a) : In64 (a.tmod b) := by
  unfold In64 at *
  have h1 : (a.tmod b).natAbs = a.natAbs % b.natAbs := Int.natAbs_tmod _ _
  have h2 := Nat.mod_le a.natAbs b.natAbs
  by_cases ha : 0 ≤ a
  · have := Int.tmod_nonneg b ha
    omega
  · have h3 : a.tmod b = -((-a).tmod b) := by rw [Int.neg_tmod, Int.neg_neg]
    have := Int.tmod_nonneg b (show 0 ≤ -a by omega)
    omega
theorem in_wrap (x : Int) : In64 (wrap64 x) := by unfold In64 wrap64; omega
theorem doV_in (op a b : Int) (h1 : In64 a) : In64 (doV op a b).1 := by
  have h0 : In64 0 := by unfold In64; omega
  have h1' : In64 1 := by unfold In64; omega
  unfold doV
  split
  · exact in_wrap _
  · split
    · show In64 (if a = 0 then 1 else 0); split; exact h1'; exact h0
    · split
      · exact in_wrap _
      · split
        · exact in_wrap _
        · split
          · exact in_wrap _
          · split
            · split
              · exact h0
              · exact in_wrap _
            · split
              · split
                · exact h0
                · show In64 (a.tmod b); exact tmod_in h1
              · split
                · show In64 (if a < b then 1 else 0); split; exact h1'; exact h0
                · split
                  · show In64 (if a = b then 1 else 0); split; exact h1'; exact h0
                  · split
                    · show In64 (bits .and .i64 a b); unfold bits; simp only []; rw [i64_wrapT]; exact in_wrap _
                    · split
                      · show In64 (bits .or .i64 a b); unfold bits; simp only []; rw [i64_wrapT]; exact in_wrap _
                      · exact h0
theorem replv_full {l bs : List InsR} {i many : Nat} (h1 : bs.length ≤ 1) (h2 : bs.length ≤ many) (hl : ∀ x ∈ l, Full x) (hb : ∀ x ∈ bs, Full x) : ∀ x ∈ replv l i many bs, Full x := fun x hx => by
  unfold replv at hx
  obtain ⟨y, hy, rfl⟩ := List.mem_map.1 hx
  have hf : Full y := by
    simp only [repl, List.mem_append] at hy
    rcases hy with (hy | hy) | hy
    · exact hl y (List.mem_of_mem_take hy)
    · exact hb y hy
    · exact hl y (List.mem_of_mem_drop hy)
  have hw : WfI (fixA i many bs.length y) := fixA_wf hf.wf (by omega) (by omega) (by omega) (by omega)
  refine ⟨?_, hw.a, ?_⟩
  · unfold fixA; split; exact hf.op; exact hf.op
  · unfold fixA; split; exact hf.n; exact hf.n
theorem push_full {n : Int} (h : In64 n) : ∀ x ∈ [pushR n], Full x := fun x hx => by rw [List.mem_singleton.1 hx]; exact ⟨by show In64 1; unfold In64; omega, by show In64 0; unfold In64; omega, h⟩
theorem ruleV_full {l l' : List InsR} {i : Nat} (h : ruleV l i = some l') (hl : ∀ x ∈ l, Full x) : ∀ x ∈ l', Full x := by
  unfold ruleV at h
  cases e : l[i]? with
  | none => rw [e] at h; cases h
  | some x =>
    have hx := hl x (List.mem_of_getElem? e)
    rw [e] at h
    simp only [] at h
    split at h
    · injection h with h; subst h; exact replv_full (by simp) (by simp) hl (by simp)
    · split at h
      · cases e2 : l[i + 1]? with
        | none => rw [e2] at h; cases h
        | some y =>
          have hy := hl y (List.mem_of_getElem? e2)
          rw [e2] at h
          simp only [] at h
          unfold behindV at h
          split at h
          · injection h with h; subst h; exact replv_full (by simp) (by simp) hl (push_full (doV_in _ _ _ hx.n))
          · split at h
            · injection h with h; subst h
              exact replv_full (by simp) (by simp) hl (fun z hz => by rw [List.mem_singleton.1 hz]; exact ⟨by show In64 15; unfold In64; omega, hy.a, by show In64 0; unfold In64; omega⟩)
            · split at h
              · injection h with h; subst h; exact replv_full (by simp) (by simp) hl (by simp)
              · split at h
                · cases h
                · cases e3 : l[i + 2]? with
                  | none => rw [e3] at h; cases h
                  | some z =>
                    rw [e3] at h
                    simp only [] at h
                    split at h
                    · cases h
                    · split at h
                      · injection h with h; subst h; exact replv_full (by simp) (by simp) hl (push_full (doV_in _ _ _ hx.n))
                      · cases h
      · cases h

theorem foldv_full : ∀ (n : Nat) (l : List InsR), l.length = n → (∀ x ∈ l, Full x) → ∀ x ∈ foldv l, Full x := by
  intro n
  induction n using Nat.strongRecOn with
  | _ n ih =>
    intro l hl hw
    cases e : firstRule l with
    | none => rw [foldv_none e]; exact hw
    | some l' =>
      rw [foldv_some e]
      obtain ⟨i, _, hr, _⟩ := firstRule_some e
      exact ih l'.length (by have := firstRule_less e; omega) l' rfl (ruleV_full hr hw)
theorem putI_fullT {k m : Int} {x : InsR} (h : Full x) (hm : In64 m) : Full (putI k m x) := by
  unfold putI
  split
  · exact ⟨by show In64 1; unfold In64; omega, by show In64 0; unfold In64; omega, hm⟩
  · exact h
theorem forv_full {l : List InsR} {ps k n : Int} (h : ∀ x ∈ l, Full x) (hn : In64 n) : ∀ x ∈ forv l ps k n, Full x := by
  unfold forv
  split
  · refine foldv_full _ _ rfl (fun x hx => ?_)
    obtain ⟨y, hy, rfl⟩ := List.mem_map.1 hx
    exact putI_fullT (h y hy) hn
  · exact foldv_full _ _ rfl h

/-- a body that may be told -/
def BodyOk (b : List InsR) : Prop := b.length ≤ 1048576 ∧ ∀ x ∈ b, Full x
theorem bodyOk_nil : BodyOk [] := ⟨by simp, fun x hx => by cases hx⟩
structure TOk (T : TS) : Prop where
  fs : ∀ f ∈ T.fs, BodyOk f.l
  cache : ∀ e ∈ T.cache, BodyOk e.2
theorem TOk.f {T : TS} (h : TOk T) (fn : Nat) : BodyOk (T.f fn).l := by
  unfold TS.f
  rw [List.getD_eq_getElem?_getD]
  rcases hq : T.fs[fn]? with _ | f
  · exact bodyOk_nil
  · exact h.fs f (List.mem_of_getElem? hq)
theorem seen_in {T : TS} {fn : Nat} {args : List Int} (ha : ∀ x ∈ args, In64 x) : ∀ k, In64 ((seenV T fn args).getD k 0) := fun k => by
  have h0 : In64 0 := by unfold In64; omega
  rw [List.getD_eq_getElem?_getD]
  rcases hq : (seenV T fn args)[k]? with _ | x
  · exact h0
  · have hx := List.mem_of_getElem? hq
    unfold seenV at hx
    obtain ⟨i, _, rfl⟩ := List.mem_map.1 hx
    show In64 (if openV T.pub fn i = true then args.getD i 0 else 0)
    split
    · rw [List.getD_eq_getElem?_getD]
      rcases hq : args[i]? with _ | y
      · exact h0
      · exact ha y (List.mem_of_getElem? hq)
    · exact h0
theorem bodyV_ok {T : TS} (h : TOk T) (fn : Nat) (pick : Int) {own : List Int} (ho : ∀ k, In64 (own.getD k 0)) : BodyOk (bodyV T fn pick own).1 := by
  obtain ⟨h1, h2⟩ := h.f fn
  unfold bodyV
  split
  · exact ⟨Nat.le_trans (forv_le _ _ _ _) h1, forv_full h2 (ho _)⟩
  · exact ⟨Nat.le_trans (foldv_le _ _ rfl) h1, foldv_full _ _ rfl h2⟩
theorem putv_ok {cap : Int} {l : List (Int × List InsR)} {fn : Int} {body : List InsR} (h : ∀ e ∈ l, BodyOk e.2) (hb : BodyOk body) : ∀ e ∈ (putv cap l fn body).2.2, BodyOk e.2 := fun e he => by
  unfold putv at he
  split at he
  · rcases List.mem_append.1 he with he | he
    · exact h e (List.mem_filter.1 he).1
    · rw [List.mem_singleton.1 he]; exact hb
  · split at he
    · rcases List.mem_append.1 he with he | he
      · exact h e (List.mem_filter.1 he).1
      · rw [List.mem_singleton.1 he]; exact hb
    · rcases List.mem_append.1 he with he | he
      · exact h e he
      · rw [List.mem_singleton.1 he]; exact hb
theorem getl_ok {l : List (Int × List InsR)} {fn : Int} {body : List InsR} (h : ∀ e ∈ l, BodyOk e.2) (hg : getl l fn = some body) : BodyOk body := by
  unfold getl at hg
  rw [Option.map_eq_some_iff] at hg
  obtain ⟨e, he, rfl⟩ := hg
  exact h e (List.mem_of_find?_eq_some he)
theorem TOk.mid {cap : Int} {T : TS} (h : TOk T) (fn : Nat) {own : List Int} (ho : ∀ k, In64 (own.getD k 0)) : TOk (midV cap T fn own).1 := by
  have hp : TOk (pickedV T) := ⟨h.fs, h.cache⟩
  unfold midV
  split
  · exact ⟨h.fs, putv_ok h.cache (bodyV_ok hp fn _ ho)⟩
  · split
    · exact ⟨h.fs, fun e he => h.cache e (List.mem_filter.1 he).1⟩
    · exact hp
theorem TOk.last {T : TS} (h : TOk T) (fn : Nat) (own : List Int) (ch : Int) : TOk (lastV T fn own ch).2 ∧ BodyOk (lastV T fn own ch).1.1 := by
  unfold lastV
  split
  · exact ⟨h, bodyOk_nil⟩
  · rename_i body hb
    have hbo := getl_ok h.cache hb
    split
    · exact ⟨⟨h.fs, h.cache⟩, hbo⟩
    · split
      · exact ⟨⟨h.fs, h.cache⟩, hbo⟩
      · exact ⟨⟨h.fs, h.cache⟩, bodyOk_nil⟩
theorem TOk.enter {cap : Int} {T : TS} (h : TOk T) (fn : Int) {args : List Int} (ha : ∀ x ∈ args, In64 x) : TOk (enterV cap T fn args).2 ∧ BodyOk (enterV cap T fn args).1.1 := by
  unfold enterV
  split
  · exact ⟨h, bodyOk_nil⟩
  · exact (h.mid fn.toNat (seen_in ha)).last _ _ _
/-- what is answered depends on what is seen alone -/
theorem enter_public {cap : Int} {T : TS} {fn : Int} {a b : List Int} (h : 1 ≤ fn → ∀ i, i < 8 → openV T.pub fn.toNat i = true → a.getD i 0 = b.getD i 0) : enterV cap T fn a = enterV cap T fn b := by
  unfold enterV
  split
  · rfl
  · have hs : seenV T fn.toNat a = seenV T fn.toNat b := by
      unfold seenV
      refine List.map_congr_left (fun i hi => ?_)
      have hi := List.mem_range.1 hi
      have h8 : parV (T.f fn.toNat) ≤ 8 := by unfold parV; omega
      split
      · exact h (by omega) i (by omega) (by assumption)
      · rfl
    unfold enterN
    rw [hs]
theorem mid_pub (cap : Int) (T : TS) (fn : Nat) (own : List Int) : (midV cap T fn own).1.pub = T.pub := by
  unfold midV
  split
  · rfl
  · split <;> rfl
theorem last_pub (T : TS) (fn : Nat) (own : List Int) (ch : Int) : (lastV T fn own ch).2.pub = T.pub := by
  unfold lastV
  split
  · rfl
  · split
    · rfl
    · split <;> rfl
theorem enter_pub (cap : Int) (T : TS) (fn : Int) (args : List Int) : (enterV cap T fn args).2.pub = T.pub := by
  unfold enterV
  split
  · rfl
  · unfold enterN
    rw [last_pub, mid_pub]
end Go.Proofs.YtgiegkacilfofabDoor
namespace Go.Proofs.YtgiegkacilfofabDoor
set_option linter.unusedVariables false
set_option linter.unusedSimpArgs false
open Go.RowKit Go.Conc

theorem evCells_get : ∀ (l : List (Int × Int)) (j : Nat) (e : Int × Int), l[j]? = some e → (evCells l)[j * 2]? = some (.int .i64 e.1) ∧ (evCells l)[j * 2 + 1]? = some (.int .i64 e.2)
  | [], j, e, h => by simp at h
  | y :: l, 0, e, h => by
    have h : y = e := Option.some.inj h
    subst h
    exact ⟨rfl, rfl⟩
  | y :: l, j + 1, e, h => by
    have hh : evCells (y :: l) = .int .i64 y.1 :: .int .i64 y.2 :: evCells l := rfl
    rw [hh, show (j + 1) * 2 = j * 2 + 1 + 1 by omega]
    exact evCells_get l j e h
/-- two managers in a call that began in w0 -/
structure TM2 (w0 w : World) (ga gb : Nat → Nat) (ma mb : Nat) (cap : Int) (np : Nat) (xa xb : TAdr) (Ta Tb : TS) : Prop where
  a : TM w0 w ga ma cap np xa Ta
  b : TM w0 w gb mb cap np xb Tb
  ap : ∀ k, ga k ≠ 0 → gb k = 0
section
variable {w0 w : World} {ga gb : Nat → Nat} {ma mb : Nat} {cap : Int} {np : Nat} {xa xb : TAdr} {Ta Tb : TS}
theorem TM.mono (h : TM w0 w ga ma cap np xa Ta) {np' : Nat} (hn : np ≤ np') : TM w0 w ga ma cap np' xa Ta := ⟨h.tc.mono hn, h.inv, h.lo, h.bel⟩
theorem TM.keptX (h : TM w0 w ga ma cap np xa Ta) {w' : World} {S : Nat → Prop} (hc : Chg S w w') (hS : ∀ k, ga k ≠ 0 → ¬ S k) (hb : Below w0.heap.size w0 w') : TM w0 w' ga ma cap np xa Ta :=
  ⟨h.tc.kept hc hS, h.inv, h.lo, hb⟩
theorem TM2.kept (h : TM2 w0 w ga gb ma mb cap np xa xb Ta Tb) {w' : World} (hc : Chg (fun _ => False) w w') : TM2 w0 w' ga gb ma mb cap np xa xb Ta Tb := ⟨h.a.kept hc, h.b.kept hc, h.ap⟩
theorem TM2.swap (h : TM2 w0 w ga gb ma mb cap np xa xb Ta Tb) : TM2 w0 w gb ga mb ma cap np xb xa Tb Ta := ⟨h.b, h.a, fun k hk => by
  rcases Nat.eq_zero_or_pos (ga k) with e | e
  · exact e
  · exact absurd (h.ap k (by omega)) hk⟩
theorem TM2.mono (h : TM2 w0 w ga gb ma mb cap np xa xb Ta Tb) {np' : Nat} (hn : np ≤ np') : TM2 w0 w ga gb ma mb cap np' xa xb Ta Tb := ⟨h.a.mono hn, h.b.mono hn, h.ap⟩
/-- the first one's Enter -/
theorem TM2.enter (h : TM2 w0 w ga gb ma mb cap np xa xb Ta Tb) {V : Value} {args : List Int} (ha : NumSrc w V args) (fn : Int) (hnp : np + 20 < 1048576) :
    Calls Tryd.prog 9 #[.pointer (some ⟨ma, 0, none⟩), .int .i64 fn, V] w fun e w' => ∃ VB ga', e = .returned (.tuple #[VB, .bool (enterV cap Ta fn args).1.2.1, .int .i64 (enterV cap Ta fn args).1.2.2]) ∧
      w'.ownsRow 0 44 3 VB (enterV cap Ta fn args).1.1.length (insCells (enterV cap Ta fn args).1.1) ∧ (∀ k, VB.ownBlock = some k → w.heap.size ≤ k ∧ ga' k = 0 ∧ gb k = 0) ∧ TM2 w0 w' ga' gb ma mb cap (np + 10) xa xb (enterV cap Ta fn args).2 Tb ∧ Chg (Own ga) w w' := by
  refine (h.a.enter ha fn hnp).mono ?_
  rintro e w' ⟨VB, ga', rfl, h1, h2, h3, h4, h5⟩
  have hz : ∀ k, w.heap.size ≤ k → gb k = 0 := fun k hk => by
    rcases Nat.eq_zero_or_pos (gb k) with e | e
    · exact e
    · have := h.b.tc.lt k (by omega); omega
  refine ⟨VB, ga', rfl, h1, fun k hk => ⟨(h2 k hk).1, (h2 k hk).2, hz k (h2 k hk).1⟩, ⟨h3, (h.b.mono (by omega)).keptX h5 (fun k hk hk2 => hk (h.ap k hk2)) h3.bel, fun k hk => ?_⟩, h5⟩
  rcases h4.new k hk with hk | hk
  · exact h.ap k hk
  · exact hz k hk
/-- a second manager is laid -/
theorem TM2.of_new {w1 : World} (h : TM w0 w ga ma cap np xa Ta) (hb : Below w.heap.size w w1) (htc : TC w1 gb mb cap np xb Tb) (hi : TInv cap Tb) (hlo : ∀ k, gb k ≠ 0 → w.heap.size ≤ k) : TM2 w0 w1 ga gb ma mb cap np xa xb Ta Tb :=
  ⟨h.kept (Below.chg hb), ⟨htc, hi, fun k hk => Nat.le_trans h.bel.size (hlo k hk), h.bel.trans (hb.mono h.bel.size)⟩, fun k hk => by
    have := h.tc.lt k hk
    rcases Nat.eq_zero_or_pos (gb k) with e | e
    · exact e
    · have := hlo k (by omega); omega⟩
end
end Go.Proofs.YtgiegkacilfofabDoor
namespace Go.Proofs.YtgiegkacilfofabDoor
set_option linter.unusedVariables false
set_option linter.unusedSimpArgs false
open Go.RowKit Go.Conc

set_option maxHeartbeats 2000000 in
set_option maxRecDepth 100000 in
theorem ttexts_any {w : World} (hT : TxtIs w) {A1 A2 : Option Addr} {n c1 c2 : Nat} {l : List InsR} (hn : n = l.length) (h1 : Src w (.slice A1 n c1) n (insCells l)) (h2 : Src w (.slice A2 n c2) n (insCells l)) (hb : BodyOk l) :
    Calls Tryd.prog 11 #[.slice A1 n c1, .slice A2 n c2] w fun e w' => e = .returned (.bool true) ∧ Below w.heap.size w w' := by
  have C1 := Lib.hid (text_any (v := .slice A1 n c1) (l := l) hT (by rw [← hn]; exact h1) hb.1 hb.2)
  have C2 : Hid (∀ w', Below w.heap.size w w' → Calls Tryd.prog 13 #[.slice A2 n c2] w' fun e w2 => e = .returned (.string ⟨(textL l l.length).toArray⟩) ∧ Below w'.heap.size w' w2) :=
    Lib.hid (fun w' hbw => text_any (v := .slice A2 n c2) (l := l) (hT.keep hbw) (by rw [← hn]; exact h2.kept (Below.chg hbw) (.inr fun _ _ x => x)) hb.1 hb.2)
  obtain ⟨bs, hbs⟩ : ∃ z, z = (⟨(textL l l.length).toArray⟩ : ByteArray) := ⟨_, rfl⟩
  rw [← hbs] at C1 C2
  clear hbs h1 h2 hb hn
  go_enter Tryd.func11, Tryd.ntmps11
  go_wp2_with fail
  refine C1.out.mono ?_
  rintro e w1 ⟨rfl, hb1⟩
  have CC := Lib.hid (C2.out w1 hb1)
  have HB1 := Lib.hid hb1
  clear hb1 C1 C2
  go_wp2_with fail
  refine CC.out.mono ?_
  rintro e w2 ⟨rfl, hb2⟩
  have HB2 := Lib.hid hb2
  clear hb2 CC
  go_wp2_with fail
  go_ret
  exact ⟨rfl, bel_trans HB1.out HB2.out⟩

set_option maxHeartbeats 4000000 in
set_option maxRecDepth 100000 in
theorem tevents_any {w : World} {A1 A2 : Option Addr} {n c1 c2 : Nat} {l : List (Int × Int)} (hn : n = l.length) (hm : n ≤ 1048576) (h1 : w.ownsRow 0 41 2 (.slice A1 n c1) n (evCells l)) (h2 : w.ownsRow 0 41 2 (.slice A2 n c2) n (evCells l)) :
    Calls Tryd.prog 12 #[.slice A1 n c1, .slice A2 n c2] w fun e w' => e = .returned (.bool true) ∧ Below w.heap.size w w' := by
  have HR := Lib.hid (And.intro h1 (And.intro h2 hn))
  clear h1 h2 hn
  go_enter Tryd.func12, Tryd.ntmps12
  go_wp2_with fail
  go_loopg [5] (n + 1) (fun z i wr => ∃ j : Nat, j ≤ n ∧ z = n + 1 - j ∧ i = .int .i64 j ∧ Hid (Below w.heap.size w wr))
  case atStart => exact ⟨0, by omega, rfl, rfl, Lib.hid (Below.refl _ _)⟩
  case round =>
    obtain ⟨j, hj, hz, rfl, HB⟩ := hrel
    have HZ := Lib.hid hz
    clear hz
    by_cases hlt : j < n
    · obtain ⟨g1, d1, e1, _, q1⟩ := ownsRow_at HR.out.1 (by omega)
      obtain ⟨g2, d2, e2, _, q2⟩ := ownsRow_at HR.out.2.1 (by omega)
      injection e1 with e1 _ e3
      subst e1 e3
      injection e2 with e1 _ e3
      subst e1 e3
      obtain ⟨⟨a, b⟩, he⟩ : ∃ e, l[j]? = some e := ⟨_, List.getElem?_eq_getElem (by rw [← HR.out.2.2]; exact hlt)⟩
      obtain ⟨v0, v1⟩ := evCells_get _ _ _ he
      have p0 := (Below.chg HB.out).cell (q1 _ _ v0) (fun x => x)
      have p1 := (Below.chg HB.out).cell (q1 _ _ v1) (fun x => x)
      have p2 := (Below.chg HB.out).cell (q2 _ _ v0) (fun x => x)
      have p3 := (Below.chg HB.out).cell (q2 _ _ v1) (fun x => x)
      simp only at p0 p1 p2 p3
      clear q1 q2 v0 v1 he
      go_upto_region 6 with fail
      go_quiet (fail)
      go_wp2_with fail
      go_roundg (n + 1 - (j + 1))
      case measure => have := HZ.out; omega
      case rel => exact ⟨j + 1, by omega, rfl, by go_num, Lib.hid (belowN HB.out _)⟩
    · go_wp2_with fail
      go_ret
      exact ⟨rfl, HB.out⟩
end Go.Proofs.YtgiegkacilfofabDoor
