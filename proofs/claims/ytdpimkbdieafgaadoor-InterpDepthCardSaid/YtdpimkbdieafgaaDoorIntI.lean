/- interp: call and calls, by run's contract. -/
import Derived.Test.YtdpimkbdieafgaaDoorIntH
namespace Go.Proofs.YtdpimkbdieafgaaDoor
set_option linter.unusedVariables false
set_option linter.unusedSimpArgs false
open Go.RowKit

structure Mm (W0 w : World) (X : Nat → Prop) (m : Nat) (V : Value) (d : Nat) (g : GS) : Prop where
  mi : MIs W0 w X m V d g
  bel : Below W0.heap.size W0 w
  lx : ∀ k, X k → W0.heap.size ≤ k ∧ k < w.heap.size
structure GOk (g : GS) : Prop where
  n0 : 0 ≤ g.now
  nf : g.now ≤ g.fuel
  fm : g.fuel ≤ 1048576
  pr : (g.pr.length : Int) ≤ g.now
  ke : (g.ke.length : Int) ≤ g.now
  cl : (g.cl.length : Int) ≤ g.now
/-- g' is later than g -/
structure GLe (g g' : GS) : Prop where
  ok : GOk g'
  now : g.now ≤ g'.now
  fuel : g'.fuel = g.fuel
  q : g'.q = g.q
def MachP (W0 w : World) (X : Nat → Prop) (m : Nat) (V : Value) (d : Nat) (g : GS) (O : Int → Int → GS → Prop) (e : Ending) (w' : World) : Prop :=
  ∃ X' n err g', e = .returned (.tuple #[.int .i64 n, .int .i64 err]) ∧ Mm W0 w' X' m V d g' ∧ Chg X w w' ∧ (∀ k, X' k → X k ∨ w.heap.size ≤ k) ∧ O n err g' ∧ (err = 0 → GLe g g')
structure Ctx (W0 : World) (fs : List FnR) (V : Value) : Prop where
  code : CodeOk fs
  fns : FnsIs W0 V fs
  sorts : SortsIs W0
  lens : ∀ f ∈ fs, f.l.length ≤ 1048576
theorem Ctx.fn {W0 : World} {fs : List FnR} {V : Value} (h : Ctx W0 fs V) {k : Nat} (hk : k < fs.length) : fs.getD k noFn = fs[k] ∧ goodF fs fs[k] ∧ fs[k].l.length ≤ 1048576 :=
  ⟨by rw [List.getD_eq_getElem?_getD, List.getElem?_eq_getElem hk]; rfl, h.code.2.2 _ (List.getElem_mem hk), h.lens _ (List.getElem_mem hk)⟩
/-- what comes of a frame; with an error the number is nought -/
def Rand (fs : List FnR) (f : Fr) (d : Nat) (g : GS) (n err : Int) (g' : GS) : Prop := (err ≠ 0 → n = 0) ∧ Ran fs f d g n err g'
def CallO (fs : List FnR) (fn : Nat) (args : List Int) (d : Nat) (g : GS) (n err : Int) (g' : GS) : Prop :=
  (64 < d ∧ n = 0 ∧ err = 3 ∧ g' = g) ∨ (d ≤ 64 ∧ Rand fs (newFr fs fn args) (d + 1) g n err g')
/-- run's contract, where less than μ is left -/
def RunH (W0 : World) (fs : List FnR) (V : Value) (m : Nat) (μ : Nat) : Prop :=
  ∀ (w : World) (X : Nat → Prop) (d : Nat) (g : GS) (fn : Nat) (args : List Int) (VA : Value) (B : Option Addr) (c n : Nat), Mm W0 w X m V d g → GOk g → (g.fuel - g.now).toNat < μ → (hf : fn < fs.length) → 1 ≤ d → d ≤ 65 → NumSrc w VA args → (∀ k, VA.ownBlock = some k → ¬ X k) → (args.length : Int) = fs[fn].ps →
    n = fs[fn].l.length → Src W0 (.slice B n c) n (insCells fs[fn].l) →
    Calls Tryd.prog 38 #[.pointer (some ⟨m, 0, none⟩), .int .i64 fn, .slice B n c, .func (.func 33) #[] #[], VA] w (MachP W0 w X m V d g (fun n err g' => Rand fs (newFr fs fn args) d g n err g'))
def CallH (W0 : World) (fs : List FnR) (V : Value) (m : Nat) (μ : Nat) : Prop :=
  ∀ (w : World) (X : Nat → Prop) (d : Nat) (g : GS) (fn : Nat) (args : List Int) (VA : Value), Mm W0 w X m V d g → GOk g → (g.fuel - g.now).toNat < μ → (hf : fn < fs.length) → d ≤ 65 → NumSrc w VA args → (∀ k, VA.ownBlock = some k → ¬ X k) → (args.length : Int) = fs[fn].ps →
    Calls Tryd.prog 22 #[.pointer (some ⟨m, 0, none⟩), .int .i64 fn, VA] w (MachP W0 w X m V d g (fun n err g' => CallO fs fn args d g n err g'))

theorem NumSrc.keptX {w w' : World} {V : Value} {l : List Int} {T : Nat → Prop} (h : NumSrc w V l) (hc : Chg T w w') (hn : ∀ k, V.ownBlock = some k → ¬ T k) : NumSrc w' V l := by
  obtain ⟨A, c, rfl, h1, h2, h3⟩ := h
  refine ⟨A, c, rfl, h1, h2, fun h0 => ?_⟩
  obtain ⟨b, off, rfl, h4⟩ := h3 h0
  exact ⟨b, off, rfl, fun j x hx => hc.cell (h4 j x hx) (hn b rfl)⟩
theorem Mm.setd {W0 w : World} {X : Nat → Prop} {m : Nat} {V : Value} {d : Nat} {g : GS} (h : Mm W0 w X m V d g) (d' : Nat) : Mm W0 (w.setCell ⟨m, 6, none⟩ (.int .i64 d')) X m V d' g ∧ Chg (fun k => k = m) w (w.setCell ⟨m, 6, none⟩ (.int .i64 d')) ∧ X m := by
  obtain ⟨mt, hp, Sh, I0, I1, P, KV, CV, h1, h2⟩ := h.mi
  have hs := Chg.set_cell (w := w) ⟨m, 6, none⟩ (.int .i64 d')
  exact ⟨⟨⟨mt, hp, Sh, I0, I1, P, KV, CV, h1.setd d', h2⟩, h.bel.trans (hs.below (B := W0.heap.size) (fun k hk => by have hk : k = m := hk; rw [hk]; exact (h.lx m h2.m).1) h.bel.size), fun k hk => ⟨(h.lx k hk).1, Nat.lt_of_lt_of_le (h.lx k hk).2 hs.size⟩⟩, hs, h2.m⟩
theorem Mm.box {W0 w : World} {X : Nat → Prop} {m : Nat} {V : Value} {d : Nat} {g : GS} (h : Mm W0 w X m V d g) : w.cell? ⟨m, 2, none⟩ = some V ∧ w.cell? ⟨m, 5, none⟩ = some .nilIface ∧ w.cell? ⟨m, 6, none⟩ = some (.int .i64 d) ∧ w.frozen? ⟨m, 6, none⟩ = false := by
  obtain ⟨mt, hp, Sh, I0, I1, P, KV, CV, h1, h2⟩ := h.mi
  have c2 := cell_of_block h1.box 2
  have c5 := cell_of_block h1.box 5
  have c6 := cell_of_block h1.box 6
  simp at c2 c5 c6
  exact ⟨c2, c5, c6, frozen_of_block h1.box 6⟩

set_option maxHeartbeats 4000000 in
set_option maxRecDepth 100000 in
theorem call_of_run {W0 : World} {fs : List FnR} {V : Value} {m : Nat} {μ : Nat} (hC : Ctx W0 fs V) (hR : RunH W0 fs V m μ) : CallH W0 fs V m μ := by
  intro w X d g fn args VA hm hg hμ hf hd hA hAX hal
  obtain ⟨c2, c5, c6, f6⟩ := hm.box
  obtain ⟨b, off, cap, B, cB, e, hb, hcap, ⟨_, _, _, _, hL⟩, hsrc⟩ := (hC.fns.keep hm.bel).get fn hf
  subst e
  obtain ⟨_, _, _, B', cB', e', _, _, ⟨_, _, _, _, hL'⟩, hsrc'⟩ := hC.fns.get fn hf
  injection e' with e1 e2 e3
  injection e1 with e1
  injection e1 with e1a e1b
  subst e1a e1b e3
  have hL2 := hm.bel.cell (World.block_lt_of_cell? _ _ hL')
  rw [hL2, hL'] at hL
  injection hL with hL
  injection hL with hLa hLb hLc
  subst hLa hLc
  have hL : w.cell? ⟨b, off + fn * 5 + 4, none⟩ = some (.slice B' fs[fn].l.length cB') := by rw [hL2]; exact hL'
  obtain ⟨k, hk⟩ : ∃ k, k = fs.length := ⟨_, rfl⟩
  obtain ⟨n, hn⟩ : ∃ n, n = fs[fn].l.length := ⟨_, rfl⟩
  have hfk : fn < k := by omega
  rw [← hk] at c2 hcap
  rw [← hn] at hL
  have HMM := Lib.hid hm
  have HK := Lib.hid (And.intro hk hn)
  by_cases h64 : 64 < d
  · have hfin : CallO fs fn args d g 0 3 g := .inl ⟨h64, rfl, rfl, rfl⟩
    have HF := Lib.hid hfin
    clear hfin hL2 hsrc hsrc' hL' hk hn hm hR hC hA
    go_enter Tryd.func22, Tryd.ntmps22
    go_wp2_with fail
    go_ret2
    exact ⟨X, 0, 3, g, rfl, HMM.out, Chg.refl _ _, fun _ h => .inl h, HF.out, (fun h => by cases h)⟩
  · obtain ⟨hm1, hc1, hXm⟩ := hm.setd (d + 1)
    obtain ⟨w1, hw1⟩ : ∃ w1, w1 = w.setCell ⟨m, 6, none⟩ (.int .i64 ((d + 1 : Nat) : Int)) := ⟨_, rfl⟩
    rw [← hw1] at hm1 hc1
    have hVA : ∀ k, VA.ownBlock = some k → k ≠ m := fun k hk e => hAX k hk (by rw [e]; exact hXm)
    have CR := Lib.hid (hR w1 X (d + 1) g fn args VA B' cB' n hm1 hg hμ hf (by omega) (by omega) (hA.keptX hc1 hVA) hAX hal hn (by rw [hn]; exact hsrc'))
    have HC1 := Lib.hid hc1
    have hdc : ((d + 1 : Nat) : Int) = (d : Int) + 1 := by omega
    have HW1 := Lib.hid hw1
    have HXM := Lib.hid hXm
    clear hL2 hsrc hsrc' hL' hk hn hm hR hC hA hm1 hc1 hw1 hXm hVA
    go_enter Tryd.func22, Tryd.ntmps22
    go_wp2_with fail
    rw [show (w.setCell ⟨m, 6, none⟩ (.int .i64 ((d : Int) + 1))) = w1 by rw [HW1.out, hdc]]
    refine CR.out.mono ?_; rintro e w2 ⟨X2, n2, err2, g2, rfl, hm2, hc2, hg2, hO, hok⟩
    obtain ⟨_, _, d6, e6⟩ := hm2.box
    obtain ⟨hm3, hc3, hX2m⟩ := hm2.setd d
    have HF := Lib.hid (And.intro hm3 (And.intro hc3 (And.intro hc2 (And.intro hg2 (And.intro hO hok)))))
    rw [hdc] at d6
    clear hm2 hm3 hc3 hc2 hg2 hO hok CR c2 c5 c6 f6 hL
    go_wp2_with fail
    go_ret2
    refine ⟨X2, n2, err2, g2, rfl, HF.out.1, ?_, fun k hk => ?_, .inr ⟨by omega, HF.out.2.2.2.2.1⟩, HF.out.2.2.2.2.2⟩
    · refine (HC1.out.mono (T := X) (fun k _ e => by rw [e]; exact HXM.out)).then ?_
      refine HF.out.2.2.1.trans HF.out.2.1 (fun _ _ x => x) (fun k hk e => ?_)
      rw [e]; exact HXM.out
    · rcases HF.out.2.2.2.1 k hk with h | h
      · exact .inl h
      · exact .inr (Nat.le_trans HC1.out.size h)

/-! ### calls -/
theorem NumSrc.drop {w : World} {A : Option Addr} {c : Nat} {l : List Int} (h : NumSrc w (.slice A l.length c) l) (j : Nat) (hj : j ≤ l.length) : NumSrc w (.slice (if c = j then A else Option.map (fun x => x.add (j * 1)) A) (l.length - j) (c - j)) (l.drop j) := by
  obtain ⟨A', c', e, h1, h2, h3⟩ := h
  injection e with e1 e2 e3
  subst e1 e3
  refine ⟨_, _, by rw [List.length_drop], by rw [List.length_drop]; omega, by omega, fun h0 => ?_⟩
  rw [List.length_drop] at h0
  obtain ⟨b, off, rfl, h4⟩ := h3 (by omega)
  refine ⟨b, off + j, by rw [if_neg (by omega), Nat.mul_one, Option.map_some]; congr 1; unfold Addr.add; split <;> simp_all, fun i x hx => ?_⟩
  rw [List.getElem?_drop] at hx
  have := h4 (j + i) x hx
  rwa [show off + (j + i) = off + j + i by omega] at this
/-- what calls answers -/
def CallsP (W0 w : World) (X Y : Nat → Prop) (m : Nat) (V : Value) (d : Nat) (g : GS) (fs : List FnR) (F : Nat) (fn : Nat) (vars arrs stack : List Int) (p : Nat) (e : Ending) (w' : World) : Prop :=
  ∃ X' Y' n err g', e = .returned (.int .i64 err) ∧ Ms W0 w' X' Y' m V d g' F vars arrs (stack.take p ++ [n]) ∧ Gr w X Y w' X' Y' ∧ CallO fs fn (stack.drop p) d g n err g' ∧ (err = 0 → GLe g g')

set_option maxHeartbeats 4000000 in
set_option maxRecDepth 100000 in
theorem calls_any {W0 w : World} {fs : List FnR} {V : Value} {m : Nat} {μ : Nat} {X Y : Nat → Prop} {d : Nat} {g : GS} {F fn : Nat} {vars arrs stack : List Int} (hC : Ctx W0 fs V) (hH : CallH W0 fs V m μ) (h : Ms W0 w X Y m V d g F vars arrs stack) (hg : GOk g) (hμ : (g.fuel - g.now).toNat < μ)
    (hf : fn < fs.length) (hd : d ≤ 65) (p : Nat) (hp : (p : Int) = (stack.length : Int) - fs[fn].ps) (hps : 0 ≤ fs[fn].ps) (hl : stack.length ≤ 1048576) :
    Calls Tryd.prog 74 #[.pointer (some ⟨m, 0, none⟩), .pointer (some ⟨F, 0, none⟩), .int .i64 fn] w (CallsP W0 w X Y m V d g fs F fn vars arrs stack p) := by
  obtain ⟨c2, _, _, _⟩ := (⟨h.mi, h.bel, h.lx⟩ : Mm W0 w X m V d g).box
  obtain ⟨b, off, cap, B, cB, e, hb, hcap, ⟨_, hpc, _, _, _⟩, _⟩ := (hC.fns.keep h.bel).get fn hf
  subst e
  obtain ⟨VA, VB, VC, hs, hY1, hY2, hY3, hY4⟩ := h.fi
  obtain ⟨_, A, c, rfl⟩ := ownsRow_slice hs.vc
  have hvc := hs.vc
  have s2 := cell_of_block hs.box 2
  have f2 := frozen_of_block hs.box 2
  simp at s2
  obtain ⟨k, hk⟩ : ∃ k, k = fs.length := ⟨_, rfl⟩
  obtain ⟨ps, hpse⟩ : ∃ ps, ps = fs[fn].ps := ⟨_, rfl⟩
  obtain ⟨n, hn⟩ : ∃ n, n = stack.length := ⟨_, rfl⟩
  have hfk : fn < k := by omega
  have hcl := (ownsRow_cap hvc).1
  have hcm := (ownsRow_cap hvc).2
  have hns := NumSrc.of_row hvc
  rw [← hk] at c2 hcap
  rw [← hpse] at hpc hp hps
  have hpn : p ≤ n := by omega
  have hdr := hns.drop p (by omega)
  have CL := Lib.hid (fun (q : Nat) => cloneL_any (hdr.keptX ((Chg.refl (fun _ => False) w).drewN q) (fun _ _ x => x)) (by rw [List.length_drop]; omega))
  rw [← hn] at s2 hcl CL
  have hsub : (n : Int) - ps = (p : Int) := by omega
  have HM := Lib.hid h
  have HS := Lib.hid hs
  have HY := Lib.hid (And.intro hY1 (And.intro hY2 (And.intro hY3 hY4)))
  have HK := Lib.hid (And.intro hk (And.intro hpse hn))
  have hnl : n ≤ 1048576 := by omega
  have HAL : Hid (((stack.drop p).length : Int) = fs[fn].ps) := Lib.hid (by rw [List.length_drop, ← hpse]; omega)
  have hwp : IntKind.i64.wrap ((n : Int) - ps) = (p : Int) := by rw [hsub, IntKind.wrap_i64]; omega
  have hcm2 : c ≤ 9223372036854775807 := by simpa [maxLen] using hcm
  have HP := Lib.hid hp
  obtain ⟨T, hT⟩ : ∃ T, (if c = p then A else Option.map (fun x => x.add p) A) = T := ⟨_, rfl⟩
  rw [Nat.mul_one, hT] at CL
  clear h hs hY1 hY2 hY3 hY4 hvc hns hdr hk hpse hn hcm hp hps
  go_enter Tryd.func74, Tryd.ntmps74
  go_wp2_with fail
  go_quiet (fail)
  go_wp2_with fail
  refine (CL.out _).mono ?_; rintro e w1 ⟨v1, rfl, hn1, hv1, hc1⟩
  have hcw := Chg.of_drewN hc1
  obtain ⟨hm1, hg1⟩ := HM.out.still hcw
  have hs1 := HS.out.kept hcw (fun x => x) (fun _ _ x => x) (fun _ _ x => x) (fun _ _ x => x)
  have t2 := cell_of_block hs1.box 2
  have tf := frozen_of_block hs1.box 2
  simp at t2
  rw [← HK.out.2.2] at t2
  -- the stack is shorter
  obtain ⟨w2, hw2⟩ : ∃ w2, w2 = w1.setCell ⟨F, 2, none⟩ (.slice A p c) := ⟨_, rfl⟩
  have hset : Chg (fun k => k = F) w1 w2 := by rw [hw2]; exact Chg.set_cell ⟨F, 2, none⟩ _
  have htl : (stack.take p).length = p := by rw [List.length_take, ← HK.out.2.2]; omega
  have hvs : w1.ownsRow 0 2 1 (.slice A p c) (stack.take p).length (nums (stack.take p)) := by
    have h := ownsRow_short hs1.vc p (by rw [← HK.out.2.2]; exact hpn)
    rw [htl, show nums (stack.take p) = (nums stack).take p by simp [nums, List.map_take]]
    exact h
  have hnc : ∀ k, (Value.slice A p c).ownBlock = some k → k ≠ F := fun k hk e => hs1.nc (by rw [← e]; cases A with | none => cases hk | some a => exact hk)
  have hs2 : FSt w2 F VA VB (.slice A p c) vars arrs (stack.take p) := by
    refine ⟨by rw [hw2]; exact heap_set hs1.box 2 _, ownsRow_kept hs1.va hset (fun k hk e => hs1.na (by rw [hk, e])), ownsRow_kept hs1.vb hset (fun k hk e => hs1.nb (by rw [hk, e])), ownsRow_kept hvs hset (fun k hk e => hnc k hk e), hs1.na, hs1.nb, fun e => hnc F e rfl, hs1.ab, fun k hk e => hs1.ac k hk (by cases A with | none => cases e | some a => exact e), fun k hk e => hs1.bc k hk (by cases A with | none => cases e | some a => exact e)⟩
  have hf2 : FIs w2 (fun k => Y k ∨ w1.heap.size ≤ k) F vars arrs (stack.take p) := ⟨VA, VB, _, hs2, .inl HY.out.1, fun k hk => .inl (HY.out.2.1 k hk), fun k hk => .inl (HY.out.2.2.1 k hk), fun k hk => .inl (own_len HY.out.2.2.2 k hk)⟩
  obtain ⟨Y2, hm2, hg2⟩ := hm1.frame hf2 (hset.mono (fun k _ e => by rw [e]; exact HY.out.1))
  have HM2 := Lib.hid hm2
  have HG2 := Lib.hid (hg1.trans hg2)
  have hv1F : ∀ k, v1.ownBlock = some k → ¬ k = F := fun k hk e => by
    have h1 := hv1 k hk
    have h2 := (HM.out.ly F HY.out.1).2
    have h3 : (w.drewN nq).heap.size = w.heap.size := rfl
    omega
  have hv1X : ∀ k, v1.ownBlock = some k → ¬ X k := fun k hk e => by
    have h1 := hv1 k hk
    have h2 := (HM.out.lx k e).2
    have h3 : (w.drewN nq).heap.size = w.heap.size := rfl
    omega
  have hn2 := hn1.keptX hset hv1F
  have CC := Lib.hid (hH w2 X d g fn (stack.drop p) v1 ⟨hm2.mi, hm2.bel, hm2.lx⟩ hg hμ hf hd hn2 hv1X HAL.out)
  have HW2 := Lib.hid hw2
  clear hn1 hv1 hc1 hcw hm1 hg1 hs1 hset hvs hnc hs2 hf2 hm2 hg2 hv1F hv1X hn2 hw2 CL s2 c2 f2 hpc
  go_wp2_with fail
  rw [← HW2.out]
  refine CC.out.mono ?_; rintro e w3 ⟨X3, n3, err3, g3, rfl, hm3, hc3, hg3, hO, hok⟩
  obtain ⟨X4, hm4, hg4⟩ := HM2.out.mach (hm3.mi.mono (fun k hk _ => hg3 k hk)) hc3
  have CP := Lib.hid (push_any n3 hm4.fi (by rw [htl]; omega))
  have HM4 := Lib.hid hm4
  have HG4 := Lib.hid (And.intro (HG2.out.trans hg4) (And.intro hO hok))
  clear hm3 hc3 hg3 hO hok hm4 hg4 CC t2 tf
  go_wp2_with fail
  refine CP.out.mono ?_; rintro e w5 ⟨rfl, hf5, hc5⟩
  obtain ⟨Y5, hm5, hg5⟩ := HM4.out.frame hf5 hc5
  have HF := Lib.hid (And.intro hm5 (HG4.out.1.trans hg5))
  clear hf5 hc5 hm5 hg5 CP
  go_wp2_with fail
  go_ret
  exact ⟨X4, Y5, n3, err3, g3, rfl, HF.out.1, HF.out.2, HG4.out.2.1, HG4.out.2.2⟩
end Go.Proofs.YtdpimkbdieafgaaDoor
