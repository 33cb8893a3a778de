/- CachePlays: the walk of the law. -/
import Derived.Test.YthmjmggeihonnaaCachePair
import Derived.Deep.LoopGhost
import Derived.Deep.CutRange
import Derived.Deep.CutBlock
namespace Go.Proofs.Ythmjmggeihonnaa
set_option linter.unusedVariables false
set_option linter.unusedSimpArgs false
open Go.RowKit Go.Deep

/-- a row that may be written over; its block is not sb -/
def Wr (w0 w : World) (X : Nat → Prop) (T : TypeId) (sz sb : Nat) (A : Option Addr) (n : Nat) : Prop :=
  0 < n → ∃ b cs, A = some ⟨b, 0, none⟩ ∧ X b ∧ w0.heap.size ≤ b ∧ b ≠ sb ∧ w.heap[b]? = some (.cells cs T (0, 0)) ∧ n * sz ≤ cs.size
theorem Wr.of_row {w0 w : World} {X : Nat → Prop} {T : TypeId} {sz sb : Nat} {A : Option Addr} {n cp : Nat} {xs : List Value} (h : w.ownsRow 0 T sz (.slice A n cp) n xs) (hX : ∀ k, (Value.slice A n cp).ownBlock = some k → X k ∧ w0.heap.size ≤ k ∧ k ≠ sb) : Wr w0 w X T sz sb A n := fun hn => by
  rcases h.2 with ⟨_, h0⟩ | ⟨g, cap, cur, e, hb, hh, h1, h2, h3, h4⟩
  · omega
  · injection e with e1 e2 e3
    subst e1 e3
    refine ⟨g, cur, rfl, (hX g rfl).1, (hX g rfl).2.1, (hX g rfl).2.2, hh, ?_⟩
    rw [h3]
    exact Nat.mul_le_mul_right _ h1
theorem Wr.kept {w0 w w' : World} {X Y T' : Nat → Prop} {T : TypeId} {sz sb : Nat} {A : Option Addr} {n : Nat} (h : Wr w0 w X T sz sb A n) (hc : Chg T' w w') (hn : ∀ k, X k → k ≠ sb → ¬ T' k) (hY : ∀ k, X k → Y k) : Wr w0 w' Y T sz sb A n := fun h0 => by
  obtain ⟨b, cs, rfl, h1, h2, h2', h3, h4⟩ := h h0
  exact ⟨b, cs, rfl, hY b h1, h2, h2', hc.heap h3 (hn b h1 h2'), h4⟩
theorem Wr.set3 {w0 w : World} {X : Nat → Prop} {T : TypeId} {sb b n : Nat} {cs : Array Value} (h : X b ∧ w0.heap.size ≤ b ∧ b ≠ sb ∧ w.heap[b]? = some (.cells cs T (0, 0)) ∧ n * 3 ≤ cs.size) (t : Nat) (x y z : Value) :
    Chg (fun k => w0.heap.size ≤ k ∧ X k) w (((w.setCell ⟨b, t * 3, none⟩ x).setCell ⟨b, t * 3 + 1, none⟩ y).setCell ⟨b, t * 3 + 2, none⟩ z) ∧
    Wr w0 (((w.setCell ⟨b, t * 3, none⟩ x).setCell ⟨b, t * 3 + 1, none⟩ y).setCell ⟨b, t * 3 + 2, none⟩ z) X T 3 sb (some ⟨b, 0, none⟩) n ∧
    ∀ o, w.heap[sb]? = some o → (((w.setCell ⟨b, t * 3, none⟩ x).setCell ⟨b, t * 3 + 1, none⟩ y).setCell ⟨b, t * 3 + 2, none⟩ z).heap[sb]? = some o := by
  obtain ⟨h1, h2, h3, h4, h5⟩ := h
  refine ⟨(((Chg.refl _ _).setCell (p := ⟨b, t * 3, none⟩) (fun _ => ⟨h2, h1⟩) x).setCell (p := ⟨b, t * 3 + 1, none⟩) (fun _ => ⟨h2, h1⟩) y).setCell (p := ⟨b, t * 3 + 2, none⟩) (fun _ => ⟨h2, h1⟩) z, fun _ => ⟨b, _, rfl, h1, h2, h3, heap_set (heap_set (heap_set h4 _ _) _ _) _ _, by simpa using h5⟩, fun o ho => ?_⟩
  rw [heap_set_ne _ (fun e => h3 e.symm), heap_set_ne _ (fun e => h3 e.symm), heap_set_ne _ (fun e => h3 e.symm)]
  exact ho
/-- what is left of a row that is read, and written over, one by one -/
def Rest (w0 w : World) (X : Nat → Prop) (A : Option Addr) (n bh : Nat) (xs : List Int) (t : Nat) : Prop :=
  0 < n → A = some ⟨bh, 0, none⟩ ∧ X bh ∧ w0.heap.size ≤ bh ∧ ∃ cs, w.heap[bh]? = some (.cells cs 3 (0, 0)) ∧ n ≤ cs.size ∧ ∀ u x, t ≤ u → xs[u]? = some x → cs[u]? = some (.int .i64 x)
theorem Rest.of_row {w0 w : World} {X : Nat → Prop} {A : Option Addr} {n cp lo : Nat} {xs : List Int} (h : w.ownsRow 0 3 1 (.slice A n cp) n (ints xs)) (hX : ∀ k, (Value.slice A n cp).ownBlock = some k → X k ∧ w0.heap.size ≤ k ∧ lo ≤ k) : ∃ bh, lo ≤ bh ∧ Rest w0 w X A n bh xs 0 := by
  rcases h.2 with ⟨_, h0⟩ | ⟨g, cap, cur, e, hb, hh, h1, h2, h3, h4⟩
  · exact ⟨lo, Nat.le_refl _, fun h => by omega⟩
  · injection e with e1 e2 e3
    subst e1 e3
    refine ⟨g, (hX g rfl).2.2, fun hn => ⟨rfl, (hX g rfl).1, (hX g rfl).2.1, cur, hh, by rw [h3]; omega, fun u x _ hx => ?_⟩⟩
    have hlt : u < n := by
      have := (List.getElem?_eq_some_iff.1 hx).1
      have h5 := h.1
      simp [ints] at h5
      omega
    have hu : (ints xs)[u]? = some (.int .i64 x) := by unfold ints; rw [List.getElem?_map, hx]; rfl
    rw [← h4, List.getElem?_take_of_lt (by omega), Array.getElem?_toList] at hu
    exact hu
theorem Rest.kept {w0 w w' : World} {X Y T' : Nat → Prop} {A : Option Addr} {n bh : Nat} {xs : List Int} {t : Nat} (h : Rest w0 w X A n bh xs t) (hc : Chg T' w w') (hn : ∀ k, X k → ¬ T' k) (hY : ∀ k, X k → Y k) : Rest w0 w' Y A n bh xs t := fun h0 => by
  obtain ⟨h1, h2, h3, cs, h4, h5, h6⟩ := h h0
  exact ⟨h1, hY _ h2, h3, cs, hc.heap h4 (hn _ h2), h5, h6⟩
theorem Rest.set {w0 w : World} {X : Nat → Prop} {A : Option Addr} {n bh : Nat} {xs : List Int} {t : Nat} (h : Rest w0 w X A n bh xs t) (h0 : 0 < n) (y : Value) :
    Chg (fun k => (w0.heap.size ≤ k ∧ X k) ∧ k = bh) w (w.setCell ⟨bh, t, none⟩ y) ∧ Rest w0 (w.setCell ⟨bh, t, none⟩ y) X A n bh xs (t + 1) := by
  obtain ⟨h1, h2, h3, cs, h4, h5, h6⟩ := h h0
  refine ⟨(Chg.refl _ _).setCell (p := ⟨bh, t, none⟩) (fun _ => ⟨⟨h3, h2⟩, rfl⟩) y, fun _ => ⟨h1, h2, h3, _, heap_set h4 _ _, by simpa using h5, fun u x hu hx => ?_⟩⟩
  rw [Array.getElem?_setIfInBounds_ne (by omega)]
  exact h6 u x (by omega) hx

theorem cstep_cap {w : World} {A : Option Addr} {l : List CStep} (h : rdStep.C w A l) (j : Nat) (hj : j < l.length) {b off : Nat} (hA : A = some ⟨b, off, none⟩) {A2 : Option Addr} {c2 : Nat} (hcell : w.cell? ⟨b, off + j * 3 + 2, none⟩ = some (.slice A2 l[j].body.length c2)) : l[j].body.length ≤ c2 := by
  obtain ⟨b', off', rfl, hx⟩ := h (by omega)
  injection hA with hA
  injection hA with e1 e2
  subst e1 e2
  obtain ⟨cs, _, hc, c, rfl, w1, w2, A2', c2', hcc, hlc, hbb, hbody⟩ := hx j l[j] (List.getElem?_eq_getElem hj)
  simp only [List.cons.injEq, and_true] at hcc
  subst hcc
  have hc : cellsAt w b' (off' + j * 3) _ := hc
  have := hc 2 _ rfl
  rw [hcell] at this
  injection this with this
  injection this with _ _ e
  subst e
  exact hlc

theorem insCells_take (l : List InsR) (m : Nat) : ∀ (j : Nat) u, (insCells (l.take m))[j]? = some u → (insCells l)[j]? = some u := fun j u h => by
  have e : insCells l = insCells (l.take m) ++ insCells (l.drop m) := by rw [← insCells_append, List.take_append_drop]
  rw [e, List.getElem?_append_left (List.getElem?_eq_some_iff.1 h).1]
  exact h

def PlRel (w0 : World) (c r len : Nat) (p q : Int) (k : Nat) (i : Value) (wr : World) : Prop :=
  ∃ (j : Nat), j ≤ len ∧ j ≤ 150 ∧ k = 150 - j ∧ i = .int .i64 j ∧ ∃ (l : List (Int × List InsR)) (n : Nat), n ≤ j ∧ CP w0 wr (fun _ => False) c r p q n l l

set_option maxHeartbeats 16000000 in
set_option maxRecDepth 100000 in
theorem plays_core (p m1 q : Int) (hc0 : clampc p = q) (hm1 : (if p < 1 then 1 else p) = m1) (hm2 : (if 32 < m1 then 32 else m1) = q) (h1 : 1 ≤ q) (h32 : q ≤ 32) (A : Option Addr) (cp : Nat) (ls : List CStep) (w : World) (hr : rdStep.C w A ls) (hl : ls.length * 40 ≤ 140737488351232) :
    Calls Try.prog 3 #[.int .i64 p, .slice A ls.length cp] w fun e w' => e = .returned (.bool true) ∧ Below w.heap.size w w' := by
  suffices hs : ∀ w0, w0 = w → ∀ len, len = ls.length → Calls Try.prog 3 #[.int .i64 p, .slice A len cp] w fun e w' => e = .returned (.bool true) ∧ Below w0.heap.size w0 w' from hs w rfl _ rfl
  intro w0 hw0 len hlen
  have HR := Lib.hid hr
  have HW := Lib.hid hw0
  have HL := Lib.hid hlen
  have hlm : len ≤ 9223372036854775807 := by omega
  have HM12 := Lib.hid (And.intro hm1 hm2)
  have HC := Lib.hid hc0
  clear hr hw0 hl hlen hc0 hm1 hm2
  go_enter Try.func3, Try.ntmps3
  go_wp2_with fail
  refine (shown_any _).mono ?_; rintro e w1 ⟨rfl, hb1⟩
  have HB1 : Hid (Below w0.heap.size w0 w1) := by rw [HW.out]; exact hb1
  clear hb1
  go_wp2_with fail
  refine (CB.new HB1.out p q HC.out).mono ?_; rintro e w2 ⟨c, rfl, h2⟩
  have h3 : CP w0 _ (fun _ => False) c w2.heap.size p q 0 [] [] := CP.of_CB h2
  obtain ⟨r, hr⟩ : ∃ r, r = w2.heap.size := ⟨_, rfl⟩
  rw [← hr] at h3
  have HRR := Lib.hid hr
  clear h2 hr
  go_wp2_with fail
  rw [← HRR.out]
  generalize (w2.alloc (.cells #[.int .i64 p, .slice none 0 0] 29)) = wz at *
  go_loopg [8] 150 (fun k i wr => PlRel w0 c r len p q k i wr)
  case atStart => exact ⟨0, by omega, by omega, rfl, rfl, [], 0, by omega, h3⟩
  case round =>
    clear h3
    obtain ⟨j, hj1, hj2, hk, rfl, l, n, hn, h2⟩ := hrel
    have HK := Lib.hid hk
    clear hk
    by_cases hlt : j < len
    · by_cases h100 : j < 150
      · have h100I : (j : Int) < 150 := by omega
        obtain ⟨b, off, s, A2, c2, rfl, hs, hbl, wf0, hfw, hbd, htm, hc⟩ := cstep_cells HR.out j (by rw [← HL.out]; exact hlt)
        have hlj : j < ls.length := by rw [← HL.out]; exact hlt
        have hsj : ls[j] = s := by rw [List.getElem?_eq_getElem hlj] at hs; exact Option.some.inj hs
        obtain ⟨q0, q1, q2⟩ := hc w0 w0 HW.out (Below.refl _ _)
        have hcap2 : s.body.length ≤ c2 := by
          have := cstep_cap HR.out j hlj rfl (A2 := A2) (c2 := c2) (by rw [hsj, ← HW.out]; exact q2)
          rw [hsj] at this
          exact this
        obtain ⟨p0, p1, p2⟩ := hc w0 wr HW.out h2.bel
        have HSRC : Hid (∀ wx, Below w0.heap.size w0 wx → Src wx (.slice A2 s.body.length c2) s.body.length (insCells s.body)) := Lib.hid fun wx hx => (htm w0 wx (fun _ => False) HW.out hx).src
        obtain ⟨kd, fn, body0⟩ := s
        simp only at p0 p1 p2 hfw hbd hcap2 HSRC
        clear hc hs wf0 htm q0 q1 q2 hlj hsj
        obtain ⟨bl0, hbl0⟩ : ∃ bl0, bl0 = body0.length := ⟨_, rfl⟩
        obtain ⟨bl, hbl2⟩ : ∃ bl, bl = min bl0 20 := ⟨_, rfl⟩
        obtain ⟨body, hbody⟩ : ∃ body, body = body0.take bl := ⟨_, rfl⟩
        rw [← hbl0] at p2 hbd hcap2 HSRC
        have HBD := Lib.hid (And.intro hbl0 hbody)
        have hbl20 : bl ≤ 20 := by omega
        have hblc : bl ≤ c2 := by omega
        have HBL : Hid (body.length = bl) := Lib.hid (by rw [hbody, List.length_take]; omega)
        have hif : (if 20 < (bl0 : Int) then 20 else (bl0 : Int)) = (bl : Int) := by split <;> omega
        have hif2 : (if 20 < bl0 then 20 else (bl0 : Int)) = (bl : Int) := by split <;> omega
        have hca : Chg (fun _ => False) wr (wr.alloc (.cells #[.int .i64 kd, .int .i64 fn, .slice A2 bl0 c2] 32)) := (Chg.refl _ _).alloc _
        have h3 := h2.other hca
        have hsb : (wr.alloc (.cells #[.int .i64 kd, .int .i64 fn, .slice A2 bl0 c2] 32)).heap[wr.heap.size]? = some (.cells #[.int .i64 kd, .int .i64 fn, .slice A2 bl0 c2] 32 (0, 0)) := heap_new _ _
        have SC : ∀ wx : World, wx.heap[wr.heap.size]? = some (.cells #[.int .i64 kd, .int .i64 fn, .slice A2 bl0 c2] 32 (0, 0)) → wx.cell? ⟨wr.heap.size, 0, none⟩ = some (.int .i64 kd) ∧ wx.cell? ⟨wr.heap.size, 1, none⟩ = some (.int .i64 fn) ∧ wx.cell? ⟨wr.heap.size, 2, none⟩ = some (.slice A2 bl0 c2) :=
          fun wx hx => ⟨cell_of_block hx 0, cell_of_block hx 1, cell_of_block hx 2⟩
        have SC := Lib.hid SC
        clear hbl0 hbl2 hbody
        obtain ⟨e0, e1, e2⟩ := SC.out _ hsb
        go_upto_region 10 with fail
        generalize hwa : (wr.alloc (.cells #[.int .i64 kd, .int .i64 fn, .slice A2 bl0 c2] 32)) = wa at *
        have HWA := Lib.hid hwa
        have hXB : Hid (Old (fun _ => False) wr wa wr.heap.size) := Lib.hid (.inr ⟨Nat.le_refl _, by rw [← hwa]; simp⟩)
        generalize hXd : Old (fun _ => False) wr wa = X0 at *
        clear hwa hXd h2 p0 p1 p2 hca
        go_cut [10] from 46 to 54 (fun v wx => ∃ V cv X, v = .slice (some V) bl cv ∧ X wr.heap.size ∧ CP w0 wx X c r p q n l l ∧ wx.heap[wr.heap.size]? = some (.cells #[.int .i64 kd, .int .i64 fn, .slice A2 bl0 c2] 32 (0, 0)) ∧ wx.ownsRow 0 40 3 (.slice (some V) bl cv) bl (insCells body) ∧ ∀ k, (Value.slice (some V) bl cv).ownBlock = some k → X k ∧ w0.heap.size ≤ k ∧ k ≠ wr.heap.size)
        case first =>
          have hszw := h3.bel.size
          have hlw : wr.heap.size < wa.heap.size := lt_of_heap hsb
          obtain ⟨i0, hi, hz0, hz1, hz2⟩ := info_parts infoIns
          have hrow : (wa.alloc (.cells #[] 40)).ownsRow 0 40 3 (.slice (some ⟨wa.heap.size, 0, none⟩) 0 0) 0 [] := ⟨rfl, .inr ⟨wa.heap.size, 0, #[], rfl, Nat.zero_le _, heap_new _ _, Nat.le_refl _, by simp [maxLen], rfl, rfl⟩⟩
          have HROW := Lib.hid hrow
          clear hrow
          cases A2 with
          | none =>
            have hb0 : bl0 = 0 := by
              rcases HSRC.out wa h3.bel with ⟨_, e, _⟩ | ⟨_, _, _, e, _⟩
              · exact e
              · cases e
            have hb1 : bl = 0 := by omega
            subst hb0
            subst hb1
            have hnil : body = [] := List.length_eq_zero_iff.1 HBL.out
            subst hnil
            go_wp2_with fail
            go_meet
            case rel =>
              have hc : Chg (fun _ => False) wa (wa.alloc (.cells #[] 40)) := (Chg.refl _ _).alloc _
              exact ⟨⟨wa.heap.size, 0, none⟩, 0, _, rfl, .inl hXB.out, h3.other hc, hc.heap hsb (fun x => x), HROW.out, fun k hk => by
                have hk : wa.heap.size = k := Option.some.inj hk
                exact ⟨.inr ⟨by omega, by rw [← hk]; simp⟩, by omega, by omega⟩⟩
          | some ad =>
            have hnews : ∀ (j : Nat) u, (insCells body)[j]? = some u → (wa.alloc (.cells #[] 40)).cell? (ad.add j) = some u := fun j u hu => by
              rw [HBD.out.2] at hu
              have hu := insCells_take _ _ _ _ hu
              rcases HSRC.out wa h3.bel with ⟨_, _, h0⟩ | ⟨b', off', cap', e, _, _, _, hc⟩
              · rw [h0] at hu; cases hu
              · injection e with e1
                injection e1 with e1
                rw [e1, addk]
                exact cell_alloc (hc j u hu) _
            have HNW := Lib.hid hnews
            clear hnews
            have hc : Chg (fun _ => False) wa (wa.alloc (.cells #[] 40)) := (Chg.refl _ _).alloc _
            have HC1 := Lib.hid hc
            clear hc
            go_wp2_with (at_builtin; refine wpList_append_own_at _ rfl _ _ _ rfl 0 40 i0 _ 3 24 Try.underlying30 hi hz0 hz1 hz2 rfl (by omega) (.slice (some ⟨wa.heap.size, 0, none⟩) 0 0) 0 [] rfl HROW.out ad bl c2 (insCells body) rfl (by rw [insCells_length, HBL.out]) HNW.out (insCells_one _) (by unfold maxLen; omega) (by omega) (by omega) ?_; intro v1 w2 ho1 hg1 hnn hat1; simp only [Nat.zero_add, List.nil_append] at ho1; have hc2 : Chg (fun _ => False) wa w2 := Chg.grownBy HC1.out hg1 (fun k hk hlt => absurd hlt (by have hk : wa.heap.size = k := Option.some.inj hk; omega)); have hn1 : ∀ k, v1.ownBlock = some k → wa.heap.size ≤ k ∧ v1.ownBlock = some k := fun k hk => ⟨by rcases hat1 with e | e; (rw [e] at hk; exact Nat.le_of_eq (Option.some.inj hk)); (rw [e] at hk; have hk := Option.some.inj hk; rw [← hk]; simp), hk⟩; obtain ⟨_, D1, d9, rfl⟩ := ownsRow_slice ho1)
            obtain ⟨g1, rfl⟩ := ownsRow_some ho1 (fun e => by have := (hnn.1 e).1; injection this with this; cases this)
            go_meet
            case rel => exact ⟨⟨g1, 0, none⟩, d9, _, rfl, .inl hXB.out, h3.other hc2, hc2.heap hsb (fun x => x), ho1, fun k hk => by
              have hk2 := (hn1 k hk).1
              exact ⟨.inr ⟨hk2, ownsRow_lt ho1 k hk⟩, by omega, by omega⟩⟩
        case rest =>
          obtain ⟨V, cv, X1, rfl, hX1, h4, hsb4, hro, hown⟩ := hcut
          clear h3 e0 e1 e2 hsb
          obtain ⟨e0, e1, e2⟩ := SC.out _ hsb4
          go_upto_block 2 with fail
          obtain ⟨w4, hw4⟩ : ∃ w4 : World, w4 = wc := ⟨_, rfl⟩
          rw [← hw4] at h4 hsb4 hro e0 e1 e2 ⊢
          clear hw4
          go_cut [11, 12, 13, 14, 15] from 57 to 96 (fun a1 a2 a3 a4 a5 wx => a1 = .bool true ∧ ∃ (l' : List (Int × List InsR)) (n' : Nat) (X : Nat → Prop), n' ≤ j + 1 ∧ X wr.heap.size ∧ CP w0 wx X c r p q n' l' l' ∧ wx.heap[wr.heap.size]? = some (.cells #[.int .i64 kd, .int .i64 fn, .slice A2 bl0 c2] 32 (0, 0)) ∧ Wr w0 wx X 40 3 wr.heap.size (some V) bl)
          case first =>
            go_wp2_with fail
            iterate 3
              · as_aux_lemma =>
                  obtain ⟨gone, ev, l', hpv⟩ : ∃ gone ev l', putv q l fn body = (gone, ev, l') := ⟨_, _, _, rfl⟩
                  have HPV := Lib.hid hpv
                  have hcapk := h4.capok
                  have HROW := Lib.hid (And.intro hro hown)
                  clear hpv hro hown
                  have hS0 : w4.drew.heap[wr.heap.size]? = some (.cells #[.int .i64 kd, .int .i64 fn, .slice A2 bl0 c2] 32 (0, 0)) := hsb4
                  refine wp_region_ord (S := fun w' => w'.heap[wr.heap.size]? = some (.cells #[.int .i64 kd, .int .i64 fn, .slice A2 bl0 c2] 32 (0, 0))) (N := fun i => true) (by kernel_rfl) [(0, true), (1, true), (2, true), (3, true), (4, false), (5, false), (6, true), (7, true), (8, true), (9, true), (10, true)] (by kernel_rfl) ?_
                  iterate 4 (refine ord_look rfl hS0 rfl (by intro w hS; obtain ⟨hS0, hS1, hS2⟩ := SC.out w hS; go_simp; with_reducible rfl) (fun c a w h => h) ?_; try simp only [Act.put, List.setIfInBounds_toArray, List.set_cons_succ, List.set_cons_zero])
                  have hsrc4 : Src w4.drew (.slice (some V) bl cv) body.length (insCells body) := by rw [HBL.out]; exact Src.of_row HROW.out.1
                  refine ord_act rfl rfl (fun K hK => ?_)
                  refine wp_call 12 _ _ Try.func12 rfl (by kernel_rfl) _ _ rfl #[.slice (some V) bl cv] (by simp [Act.eval]) (R := fun v w1 => ∃ ad cp X, v = .slice (some ad) bl cp ∧ CP w0 w1 X c r p q n l l ∧ Src w1 (.slice (some ad) bl cp) body.length (insCells body) ∧ (∀ k, (Value.slice (some ad) bl cp).ownBlock = some k → X k) ∧ (∀ k, X1 k → X k) ∧ Chg (fun _ => False) w4.drew w1) (calls_ret (rows_any hsrc4 (by rw [HBL.out]; exact hbl20)) (by
                    rintro e w1 ⟨ad, cp, rfl, ho, hn, hcc⟩
                    refine ⟨_, rfl, ad, cp, _, by rw [HBL.out], (h4.drewN 1).other hcc, by have := Src.of_row ho; rwa [HBL.out] at this ⊢, fun k hk => .inr ⟨hn k (by rw [HBL.out]; exact hk), ownsRow_lt ho k (by rw [HBL.out]; exact hk)⟩, fun k hk => .inl hk, hcc⟩)) ?_
                  rintro v w5 ⟨ad5, cp5, X5, rfl, h5, hs5, ho5, hx5, hc5⟩
                  have hsb5 := hc5.heap hS0 (fun x => x)
                  refine hK _ _ ⟨fun _ => hsb5, ?_⟩
                  clear hK K hsrc4
                  try simp only [Act.put, List.setIfInBounds_toArray, List.set_cons_succ, List.set_cons_zero]
                  refine ord_act rfl rfl (fun K hK => ?_)
                  refine wp_call 11 _ _ Try.func11 rfl (by kernel_rfl) _ _ rfl #[.pointer (some ⟨r, 0, none⟩), .int .i64 fn, .slice (some ad5) bl cp5] (by simp [Act.eval]) (R := fun v w1 => v = .tuple #[.int .i64 gone, .bool ev] ∧ CP w0 w1 X5 c r p q n l l' ∧ Chg (fun k => w0.heap.size ≤ k ∧ ¬ X5 k) w5 w1) (calls_ret (h5.rput fn hcapk.2.2 h5.nodup m1 HM12.out.1 HM12.out.2 _ body (by rw [HBL.out]; exact hbl20) hs5 ⟨ad5, cp5, by rw [HBL.out]⟩ ho5 gone ev l' HPV.out) (by rintro e w1 ⟨rfl, h⟩; exact ⟨_, rfl, rfl, h⟩)) ?_
                  rintro v w6 ⟨rfl, h6, hc6⟩
                  have hsb6 := hc6.heap hsb5 (fun x => x.2 (hx5 _ hX1))
                  refine hK _ _ ⟨fun _ => hsb6, ?_⟩
                  clear hK K
                  try simp only [Act.put, List.setIfInBounds_toArray, List.set_cons_succ, List.set_cons_zero]
                  iterate 5 (refine ord_look rfl hsb6 rfl (by intro w hS; obtain ⟨hS0, hS1, hS2⟩ := SC.out w hS; go_simp; with_reducible rfl) (fun c a w h => h) ?_; try simp only [Act.put, List.setIfInBounds_toArray, List.set_cons_succ, List.set_cons_zero])
                  refine ord_end ?_
                  have hro6 : w6.ownsRow 0 40 3 (.slice (some V) bl cv) bl (insCells body) := ownsRow_kept (ownsRow_kept HROW.out.1 ((Chg.refl (fun _ => False) w4).drew.then hc5) (fun _ _ x => x)) hc6 (fun k hk x => x.2 (hx5 k (HROW.out.2 k hk).1))
                  have HRO6 := Lib.hid hro6
                  clear hro6 h5 h4 hs5 ho5 hc5 hc6 hsb5 hS0 hsb4 e0 e1 e2
                  obtain ⟨e0, e1, e2⟩ := SC.out _ hsb6
                  go_wp2_with fail
                  refine (h6.put fn hfw _ body (by have := Src.of_row HRO6.out; rwa [HBL.out]) (fun k hk => hx5 k (HROW.out.2 k hk).1) (by rw [HBL.out]; omega) (by omega) gone ev l' HPV.out).mono ?_; rintro e w7 ⟨rfl, h7, hc7⟩
                  have hsb7 := hc7.heap hsb6 (fun x => x.2 (hx5 _ hX1))
                  have hro7 := ownsRow_kept HRO6.out hc7 (fun k hk x => x.2 (hx5 k (HROW.out.2 k hk).1))
                  have HRO7 := Lib.hid hro7
                  have hcap7 := h7.capok
                  clear hro7 h6 hc7 hsb6 e0 e1 e2
                  go_wp2_with fail
                  go_meet
                  case rel => exact ⟨rfl, l', n + 1, X5, by omega, hx5 _ hX1, h7, hsb7, Wr.of_row HRO7.out (fun k hk => ⟨hx5 k (HROW.out.2 k hk).1, (HROW.out.2 k hk).2.1, (HROW.out.2 k hk).2.2⟩)⟩
            · as_aux_lemma =>
                obtain ⟨bd, l', hdv⟩ : ∃ bd l', (getl l fn).isSome = bd ∧ l.filter (fun e => e.1 != fn) = l' := ⟨_, _, rfl, rfl⟩
                have HDV := Lib.hid hdv
                have hcapk := h4.capok
                have HROW := Lib.hid (And.intro hro hown)
                clear hdv hro hown
                have hS0 : w4.drew.heap[wr.heap.size]? = some (.cells #[.int .i64 kd, .int .i64 fn, .slice A2 bl0 c2] 32 (0, 0)) := hsb4
                refine wp_region_ord (S := fun w' => w'.heap[wr.heap.size]? = some (.cells #[.int .i64 kd, .int .i64 fn, .slice A2 bl0 c2] 32 (0, 0))) (N := fun i => true) (by kernel_rfl) [(0, true), (1, true), (2, true), (4, true), (5, true), (6, true), (3, false), (7, false), (8, true), (9, true)] (by kernel_rfl) ?_
                iterate 6 (refine ord_look rfl hS0 rfl (by intro w hS; obtain ⟨hS0, hS1, hS2⟩ := SC.out w hS; go_simp; with_reducible rfl) (fun c a w h => h) ?_; try simp only [Act.put, List.setIfInBounds_toArray, List.set_cons_succ, List.set_cons_zero])
                refine ord_act rfl rfl (fun K hK => ?_)
                refine wp_call 14 _ _ Try.func14 rfl (by kernel_rfl) _ _ rfl #[.pointer (some ⟨c, 0, none⟩), .int .i64 fn] (by simp [Act.eval]) (R := fun v w1 => v = .bool bd ∧ CP w0 w1 X1 c r p q n l' l ∧ Chg (fun k => w0.heap.size ≤ k ∧ ¬ X1 k) w4.drew w1) (calls_ret ((h4.drewN 1).drop fn hfw bd l' HDV.out) (by rintro e w1 ⟨rfl, h⟩; exact ⟨_, rfl, rfl, h⟩)) ?_
                rintro v w5 ⟨rfl, h5, hc5⟩
                have hsb5 := hc5.heap hS0 (fun x => x.2 hX1)
                refine hK _ _ ⟨fun _ => hsb5, ?_⟩
                clear hK K
                try simp only [Act.put, List.setIfInBounds_toArray, List.set_cons_succ, List.set_cons_zero]
                refine ord_act rfl rfl (fun K hK => ?_)
                refine wp_call 15 _ _ Try.func15 rfl (by kernel_rfl) _ _ rfl #[.pointer (some ⟨r, 0, none⟩), .int .i64 fn] (by simp [Act.eval]) (R := fun v w1 => v = .bool bd ∧ CP w0 w1 X1 c r p q n l' l' ∧ Chg (fun k => w0.heap.size ≤ k ∧ ¬ X1 k) w5 w1) (calls_ret (h5.rdrop fn (by omega) bd l' HDV.out) (by rintro e w1 ⟨rfl, h⟩; exact ⟨_, rfl, rfl, h⟩)) ?_
                rintro v w6 ⟨rfl, h6, hc6⟩
                have hsb6 := hc6.heap hsb5 (fun x => x.2 hX1)
                refine hK _ _ ⟨fun _ => hsb6, ?_⟩
                clear hK K
                try simp only [Act.put, List.setIfInBounds_toArray, List.set_cons_succ, List.set_cons_zero]
                iterate 2 (refine ord_look rfl hsb6 rfl (by intro w hS; obtain ⟨hS0, hS1, hS2⟩ := SC.out w hS; go_simp; with_reducible rfl) (fun c a w h => h) ?_; try simp only [Act.put, List.setIfInBounds_toArray, List.set_cons_succ, List.set_cons_zero])
                refine ord_end ?_
                have hro6 : w6.ownsRow 0 40 3 (.slice (some V) bl cv) bl (insCells body) := ownsRow_kept (ownsRow_kept HROW.out.1 ((Chg.refl (fun k => w0.heap.size ≤ k ∧ ¬ X1 k) w4).drew.then hc5) (fun k hk x => x.2 (HROW.out.2 k hk).1)) hc6 (fun k hk x => x.2 (HROW.out.2 k hk).1)
                have HRO6 := Lib.hid hro6
                clear hro6 h5 h4 hc5 hc6 hsb5 hS0 hsb4 e0 e1 e2
                go_wp2_with fail
                go_meet
                case rel => exact ⟨rfl, l', n, X1, by omega, hX1, h6, hsb6, Wr.of_row HRO6.out (fun k hk => ⟨(HROW.out.2 k hk).1, (HROW.out.2 k hk).2.1, (HROW.out.2 k hk).2.2⟩)⟩
            · as_aux_lemma =>
                go_meet
                case rel => exact ⟨rfl, l, n, X1, by omega, hX1, h4, hsb4, Wr.of_row hro (fun k hk => ⟨(hown k hk).1, (hown k hk).2.1, (hown k hk).2.2⟩)⟩
          case rest =>
            obtain ⟨rfl, l', n', X2, hn', hX2, h5, hsb5, hwb⟩ := hcut
            clear h4 hsb4 hro hown e0 e1 e2
            obtain ⟨w5, hw5⟩ : ∃ w5 : World, w5 = wc := ⟨_, rfl⟩
            rw [← hw5] at h5 hsb5 hwb ⊢
            clear hw5 hX2
            have hcapL := h5.capok
            have hnL : (l'.length : Int) ≤ 32 := by omega
            go_wp2_with fail
            go_loopg [16] bl (fun k i wx => ∃ t : Nat, t ≤ bl ∧ k = bl - t ∧ i = .int .i64 t ∧ ∃ X, CP w0 wx X c r p q n' l' l' ∧ wx.heap[wr.heap.size]? = some (.cells #[.int .i64 kd, .int .i64 fn, .slice A2 bl0 c2] 32 (0, 0)) ∧ Wr w0 wx X 40 3 wr.heap.size (some V) bl)
            case atStart => exact ⟨0, by omega, rfl, rfl, _, h5, hsb5, hwb⟩
            case round =>
              clear h5 hsb5 hwb
              obtain ⟨t, ht, hk2, rfl, XL, h5, hsb5, hwb⟩ := hrel
              have HK2 := Lib.hid hk2
              clear hk2
              by_cases htl : t < bl
              · have htI : (t : Int) < (bl : Int) := by omega
                obtain ⟨bw, cs, hV, hxw, hbw, hnb, hbk, hcs⟩ := hwb (by omega)
                injection hV with hV
                subst hV
                obtain ⟨u0, hu0⟩ : ∃ u, cs[t * 3]? = some u := ⟨_, Array.getElem?_eq_getElem (by omega)⟩
                obtain ⟨u1, hu1⟩ : ∃ u, cs[t * 3 + 1]? = some u := ⟨_, Array.getElem?_eq_getElem (by omega)⟩
                obtain ⟨u2, hu2⟩ : ∃ u, cs[t * 3 + 2]? = some u := ⟨_, Array.getElem?_eq_getElem (by omega)⟩
                have k0 := (cell_of_block hbk (t * 3)).trans hu0
                have k1 := (cell_of_block hbk (t * 3 + 1)).trans hu1
                have k2 := (cell_of_block hbk (t * 3 + 2)).trans hu2
                have f0 := frozen_of_block hbk (t * 3)
                have f1 := frozen_of_block hbk (t * 3 + 1)
                have f2 := frozen_of_block hbk (t * 3 + 2)
                have HWR := Lib.hid (Wr.set3 (And.intro hxw (And.intro hbw (And.intro hnb (And.intro hbk hcs)))) t (.int .i64 0) (.int .i64 0) (.int .i64 0))
                clear hu0 hu1 hu2 hxw hbw hnb hbk hcs hwb
                go_wp2_with fail
                go_roundg (bl - (t + 1))
                case measure => have := HK2.out; omega
                case rel =>
                  obtain ⟨z1, z2, z3⟩ := HWR.out
                  exact ⟨t + 1, by omega, rfl, by go_num, XL, h5.same z1, z3 _ hsb5, z2⟩
              · clear hwb
                obtain ⟨e0, e1, e2⟩ := SC.out _ hsb5
                obtain ⟨bx, xb, hxv⟩ : ∃ bx xb, (getl l' fn).isSome = bx ∧ (getl l' fn).getD [] = xb := ⟨_, _, rfl, rfl⟩
                obtain ⟨mx, hmx⟩ : ∃ mx, xb.length = mx := ⟨_, rfl⟩
                have HXV := Lib.hid (And.intro hxv hmx)
                clear hxv hmx
                go_wp2_with fail
                refine (h5.get fn hfw bx xb HXV.out.1 mx HXV.out.2).mono ?_; rintro e w6 ⟨A6, cp6, rfl, ho6, hn6, h6, hc6⟩
                have hsb6 := hc6.heap hsb5 (fun x => x)
                have HX6 : Hid (∀ k, (Value.slice A6 mx cp6).ownBlock = some k → _ ∧ w0.heap.size ≤ k ∧ k < w6.heap.size) := Lib.hid (fun k hk => ⟨(.inr ⟨hn6 k hk, ownsRow_lt ho6 k hk⟩ : Old XL _ w6 k), Nat.le_trans h5.bel.size (hn6 k hk), ownsRow_lt ho6 k hk⟩)
                clear h5 hsb5 hn6 hc6 e0 e1 e2
                obtain ⟨e0, e1, e2⟩ := SC.out _ hsb6
                go_wp2_with fail
                refine (h6.rget fn (by omega) bx xb HXV.out.1 mx HXV.out.2).mono ?_; rintro e w7 ⟨⟨A7, cp7, rfl, hs7⟩, rfl⟩
                obtain ⟨keys, hkeys⟩ : ∃ keys, l'.map Prod.fst = keys := ⟨_, rfl⟩
                obtain ⟨r0, hr0⟩ : ∃ r0, keys.length = r0 := ⟨_, rfl⟩
                have hlr : l'.length = r0 := by rw [← hr0, ← hkeys, List.length_map]
                have hr32 : r0 ≤ 32 := by omega
                have HKY := Lib.hid (And.intro hkeys (And.intro hr0 hlr))
                clear hkeys hr0 hlr hnL hcapL
                go_wp2_with fail
                refine (h6.held keys HKY.out.1 r0 HKY.out.2.1).mono ?_; rintro e w8 ⟨A8, cp8, rfl, ho8, hn8, h8, hc8⟩
                obtain ⟨bh, hbh, hrest⟩ := Rest.of_row (w0 := w0) (X := Old (Old XL _ w7) w7 w8) (lo := w7.heap.size) ho8 (fun k hk => ⟨.inr ⟨hn8 k hk, ownsRow_lt ho8 k hk⟩, Nat.le_trans h6.bel.size (hn8 k hk), hn8 k hk⟩)
                have hwx : Wr w0 w8 (Old (Old XL _ w7) w7 w8) 40 3 bh A6 mx := Wr.of_row (ownsRow_kept ho6 hc8 (fun _ _ x => x)) (fun k hk => ⟨.inl (HX6.out k hk).1, (HX6.out k hk).2.1, fun e => by have := (HX6.out k hk).2.2; omega⟩)
                have hs6 : Src w8 (.slice A6 mx cp6) mx (insCells xb) := (Src.of_row ho6).kept hc8 (.inr fun _ _ x => x)
                have hs7 : Src w8 (.slice A7 mx cp7) mx (insCells xb) := hs7.kept hc8 (.inr fun _ _ x => x)
                generalize Old (Old XL _ w7) w7 w8 = XM at h8 hrest hwx
                have hmxm : mx ≤ 9223372036854775807 := (ownsRow_slice ho6).1
                clear h6 ho6 ho8 hn8 hc8 hsb6 e0 e1 e2 HX6
                obtain ⟨A9, cp9, hcr⟩ := h8.facts r0 HKY.out.2.2
                have HR28 := Lib.hid (And.intro hrest hwx)
                clear hrest hwx
                go_wp2_with fail
                have hS0 : w8.drew.cell? ⟨r, 1, none⟩ = some (.slice A9 r0 cp9) := hcr
                refine wp_region_ord (S := fun w' => w'.cell? ⟨r, 1, none⟩ = some (.slice A9 r0 cp9)) (N := fun i => true) (by kernel_rfl) [(0, true), (1, true), (2, true), (3, true), (4, true), (5, true), (6, true), (7, true), (8, true), (9, true), (10, false), (11, true), (12, true), (13, true), (14, true), (15, true), (16, true), (17, true), (18, true), (19, true), (20, true), (21, true), (22, true), (23, true), (24, true), (26, true), (27, true), (28, true), (29, true), (30, true), (25, false), (31, true), (32, true)] (by kernel_rfl) ?_
                iterate 10 (refine ord_look rfl hS0 rfl (by intro w hS; go_simp; with_reducible rfl) (fun c a w h => h) ?_; try simp only [Act.put, List.setIfInBounds_toArray, List.set_cons_succ, List.set_cons_zero])
                have hmt : Calls Try.prog 19 #[.slice A6 mx cp6, .slice A7 mx cp7] w8.drew fun e w' => e = .returned (.bool true) ∧ ∃ m, w' = w8.drew.drewN m := by
                  have hk : Chg (fun _ => False) w8 w8.drew := (Chg.refl _ _).drew
                  have := match_any (xs := xb) (ys := xb) (w := w8.drew) (a := .slice A6 mx cp6) (b := .slice A7 mx cp7) (by rw [HXV.out.2]; exact hs6.kept hk (.inr fun _ _ x => x)) (by rw [HXV.out.2]; exact hs7.kept hk (.inr fun _ _ x => x))
                  rwa [decide_eq_true rfl] at this
                refine ord_act rfl rfl (fun K hK => ?_)
                refine wp_call 19 _ _ Try.func19 rfl (by kernel_rfl) _ _ rfl #[.slice A6 mx cp6, .slice A7 mx cp7] (by simp [Act.eval]) (R := fun v w1 => v = .bool true ∧ ∃ m, w1 = w8.drew.drewN m) (calls_ret hmt (by rintro e w1 ⟨rfl, h⟩; exact ⟨_, rfl, rfl, h⟩)) ?_
                rintro v wb ⟨rfl, mb, rfl⟩
                have hSb : (w8.drew.drewN mb).cell? ⟨r, 1, none⟩ = some (.slice A9 r0 cp9) := hS0
                refine hK _ _ ⟨fun _ => hSb, ?_⟩
                clear hK K hmt hs6 hs7
                have h9 := (h8.drewN 1).drewN mb
                have HR29 : Hid (Rest w0 (w8.drew.drewN mb) XM A8 r0 bh keys 0 ∧ Wr w0 (w8.drew.drewN mb) XM 40 3 bh A6 mx) := Lib.hid (by
                  have hk : Chg (fun _ => False) w8 (w8.drew.drewN mb) := (Chg.refl _ _).drew.drewN mb
                  exact ⟨HR28.out.1.kept hk (fun _ _ x => x) (fun _ x => x), HR28.out.2.kept hk (fun _ _ _ x => x) (fun _ x => x)⟩)
                clear HR28 h8
                have HLN : Hid ((l'.length : Int) = r0) := Lib.hid (by rw [HKY.out.2.2])
                obtain ⟨w9, hw9⟩ : ∃ w9, w9 = w8.drew.drewN mb := ⟨_, rfl⟩
                have h9 : CP w0 (w8.drew.drewN mb) XM c r p q n' l' l' := h9
                rw [← hw9] at h9 HR29 hSb ⊢
                clear hw9 hcr hS0
                try simp only [Act.put, List.setIfInBounds_toArray, List.set_cons_succ, List.set_cons_zero]
                iterate 14 (refine ord_look rfl hSb rfl (by intro w hS; go_simp; with_reducible rfl) (fun c a w h => h) ?_; try simp only [Act.put, List.setIfInBounds_toArray, List.set_cons_succ, List.set_cons_zero])
                iterate 5 (refine ord_look rfl hSb rfl (by intro w hS; go_simp; with_reducible rfl) (fun c a w h => h) ?_; try simp only [Act.put, List.setIfInBounds_toArray, List.set_cons_succ, List.set_cons_zero])
                refine ord_act rfl rfl (fun K hK => ?_)
                refine wp_call 20 _ _ Try.func20 rfl (by kernel_rfl) _ _ rfl #[.pointer (some ⟨c, 0, none⟩)] (by simp [Act.eval]) (R := fun v w1 => v = .int .i64 (r0 : Int) ∧ w1 = w9) (calls_ret (h9.len r0 HLN.out) (by rintro e w1 ⟨rfl, h⟩; exact ⟨_, rfl, rfl, h⟩)) ?_
                rintro v w10 ⟨rfl, hw10⟩
                rw [hw10]
                clear hw10
                refine hK _ _ ⟨fun _ => hSb, ?_⟩
                clear hK K
                try simp only [Act.put, List.setIfInBounds_toArray, List.set_cons_succ, List.set_cons_zero]
                iterate 2 (refine ord_look rfl hSb rfl (by intro w hS; go_simp; with_reducible rfl) (fun c a w h => h) ?_; try simp only [Act.put, List.setIfInBounds_toArray, List.set_cons_succ, List.set_cons_zero])
                refine ord_end ?_
                obtain ⟨hrs, hwx⟩ := HR29.out
                clear HR29 hSb
                go_wp2_with fail
                go_loopg [22] r0 (fun k i wx => ∃ t : Nat, t ≤ r0 ∧ k = r0 - t ∧ i = .int .i64 t ∧ CP w0 wx XM c r p q n' l' l' ∧ Rest w0 wx XM A8 r0 bh keys t ∧ Wr w0 wx XM 40 3 bh A6 mx)
                case atStart => exact ⟨0, by omega, rfl, rfl, h9, hrs, hwx⟩
                case round =>
                  clear h9 hrs hwx
                  obtain ⟨t3, ht3, hk3, rfl, h9, hrs, hwx⟩ := hrel
                  have HK3 := Lib.hid hk3
                  clear hk3
                  by_cases ht3l : t3 < r0
                  · have ht3I : (t3 : Int) < (r0 : Int) := by omega
                    obtain ⟨hA8, hXb, hw0b, cs, hbk, hcsz, hcsx⟩ := hrs (by omega)
                    subst hA8
                    obtain ⟨x, hx⟩ : ∃ x, keys[t3]? = some x := ⟨_, List.getElem?_eq_getElem (by rw [HKY.out.2.1]; exact ht3l)⟩
                    have c1 := (cell_of_block hbk t3).trans (hcsx t3 x (Nat.le_refl _) hx)
                    have f1 := frozen_of_block hbk t3
                    obtain ⟨g, cpg, g1, g2, g3, g4⟩ := h9.entry r0 HKY.out.2.2 t3 ht3l
                    have g5 := g4 x (by rw [HKY.out.1]; exact hx)
                    have HR := Lib.hid (And.intro hrs hwx)
                    clear hXb hw0b hbk hcsz hcsx hx g4 hrs hwx
                    go_wp2_with fail
                    go_region
                    go_wp2_with fail
                    go_roundg (r0 - (t3 + 1))
                    case measure => have := HK3.out; omega
                    case rel =>
                      obtain ⟨z1, z2⟩ := HR.out.1.set (by omega) (.int .i64 (-7))
                      have hk : Chg (fun _ => False) (wr.setCell ⟨bh, t3, none⟩ (.int .i64 (-7))) (wr.setCell ⟨bh, t3, none⟩ (.int .i64 (-7))).drew := (Chg.refl _ _).drew
                      exact ⟨t3 + 1, by omega, rfl, by go_num, h9.same (z1.mono (fun _ _ x => x.1)).drew, z2.kept hk (fun _ _ x => x) (fun _ x => x), (HR.out.2.kept z1 (fun k hk hne x => hne x.2) (fun _ x => x)).kept hk (fun _ _ _ x => x) (fun _ x => x)⟩
                  · clear hrs
                    go_wp2_with fail
                    go_loopg [23] mx (fun k i wx => ∃ t : Nat, t ≤ mx ∧ k = mx - t ∧ i = .int .i64 t ∧ ∃ X, CP w0 wx X c r p q n' l' l' ∧ Wr w0 wx X 40 3 bh A6 mx)
                    case atStart => exact ⟨0, by omega, rfl, rfl, _, h9, hwx⟩
                    case round =>
                      clear h9  hwx
                      obtain ⟨t, ht, hk2, rfl, XL, h9, hwx⟩ := hrel
                      have HK2 := Lib.hid hk2
                      clear hk2
                      by_cases htl : t < mx
                      · have htI : (t : Int) < (mx : Int) := by omega
                        obtain ⟨bw, cs, hV, hxw, hbw, hnb, hbk, hcs⟩ := hwx (by omega)
                        skip
                        subst hV
                        obtain ⟨u0, hu0⟩ : ∃ u, cs[t * 3]? = some u := ⟨_, Array.getElem?_eq_getElem (by omega)⟩
                        obtain ⟨u1, hu1⟩ : ∃ u, cs[t * 3 + 1]? = some u := ⟨_, Array.getElem?_eq_getElem (by omega)⟩
                        obtain ⟨u2, hu2⟩ : ∃ u, cs[t * 3 + 2]? = some u := ⟨_, Array.getElem?_eq_getElem (by omega)⟩
                        have k0 := (cell_of_block hbk (t * 3)).trans hu0
                        have k1 := (cell_of_block hbk (t * 3 + 1)).trans hu1
                        have k2 := (cell_of_block hbk (t * 3 + 2)).trans hu2
                        have f0 := frozen_of_block hbk (t * 3)
                        have f1 := frozen_of_block hbk (t * 3 + 1)
                        have f2 := frozen_of_block hbk (t * 3 + 2)
                        have HWR := Lib.hid (Wr.set3 (And.intro hxw (And.intro hbw (And.intro hnb (And.intro hbk hcs)))) t (.int .i64 99) (.int .i64 0) (.int .i64 0))
                        clear hu0 hu1 hu2 hxw hbw hnb hbk hcs hwx
                        go_wp2_with fail
                        go_roundg (mx - (t + 1))
                        case measure => have := HK2.out; omega
                        case rel =>
                          obtain ⟨z1, z2, z3⟩ := HWR.out
                          exact ⟨t + 1, by omega, rfl, by go_num, XL, h9.same z1, z2⟩
                      · go_wp2_with fail
                        go_roundg (150 - (j + 1))
                        case measure => have := HK.out; omega
                        case rel => exact ⟨j + 1, by omega, by omega, rfl, by go_num, l', n', hn', h9.free⟩
      · go_wp2_with fail
        go_ret
        exact ⟨rfl, h2.bel⟩
    · go_wp2_with fail
      go_ret
      exact ⟨rfl, h2.bel⟩

theorem cachePlays_walk (p : Int) (A : Option Addr) (cp : Nat) (ls : List CStep) (w : World) (hq : (Lit.int .i64 p).wf = true) (hr : rdStep.C w A ls) (hl : ls.length * 40 ≤ 140737488351232) :
    Calls Try.prog 3 #[.int .i64 p, .slice A ls.length cp] w fun e w' => e = .returned (.bool true) ∧ Below w.heap.size w w' := by
  by_cases h1 : p < 1
  · exact plays_core p 1 1 (by unfold clampc; rw [if_pos h1]) (by rw [if_pos h1]) (by decide) (by decide) (by decide) A cp ls w hr hl
  · by_cases h2 : 32 < p
    · exact plays_core p p 32 (by unfold clampc; rw [if_neg h1, if_pos h2]) (by rw [if_neg h1]) (by rw [if_pos h2]) (by decide) (by decide) A cp ls w hr hl
    · exact plays_core p p p (by unfold clampc; rw [if_neg h1, if_neg h2]) (by rw [if_neg h1]) (by rw [if_neg h2]) (by omega) (by omega) A cp ls w hr hl
end Go.Proofs.Ythmjmggeihonnaa
