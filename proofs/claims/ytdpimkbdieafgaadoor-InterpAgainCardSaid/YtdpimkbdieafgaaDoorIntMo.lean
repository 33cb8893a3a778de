/- With more fuel it goes as far, and farther: plainly. -/
import Derived.Test.YtdpimkbdieafgaaDoorIntBo
namespace Go.Proofs.YtdpimkbdieafgaaDoor
set_option linter.unusedVariables false
set_option linter.unusedSimpArgs false
open Go.RowKit

def fuelG (F : Int) (g : GS) : GS := { g with fuel := F }
def fuelC (F : Int) : Conf → Conf
  | .run frs g => .run frs (fuelG F g)
  | .over g r e => .over (fuelG F g) r e
theorem step_eq (fs : List FnR) (f : Fr) (rest : List Fr) (g : GS) : step fs (.run (f :: rest) g) = (if (paid g (curI fs f)).fuel < (paid g (curI fs f)).now then .over (paid g (curI fs f)) 0 8
      else if (curI fs f).op = 18 then retC (top f.stack) rest (paid g (curI fs f))
      else if (curI fs f).op = 16 then (if top f.stack = 0 then .run ({ f with at_ := (curI fs f).a.toNat, stack := f.stack.dropLast } :: rest) (paid g (curI fs f)) else .run ({ f with at_ := f.at_ + 1, stack := f.stack.dropLast } :: rest) (paid g (curI fs f)))
      else if (curI fs f).op = 15 then .run ({ f with at_ := (curI fs f).a.toNat } :: rest) (paid g (curI fs f))
      else if (curI fs f).op = 17 then
        (if 64 < rest.length + 1 then .over (paid g (curI fs f)) 0 3
         else .run (newFr fs (curI fs f).a.toNat (f.stack.drop (f.stack.length - parsOf fs (curI fs f).a)) :: { f with at_ := f.at_ + 1, stack := f.stack.take (f.stack.length - parsOf fs (curI fs f).a) } :: rest) (paid g (curI fs f)))
      else if (doesv (curI fs f) { f with at_ := f.at_ + 1 } (paid g (curI fs f))).1 = 0 then .run ((doesv (curI fs f) { f with at_ := f.at_ + 1 } (paid g (curI fs f))).2.1 :: rest) (doesv (curI fs f) { f with at_ := f.at_ + 1 } (paid g (curI fs f))).2.2 else .over (doesv (curI fs f) { f with at_ := f.at_ + 1 } (paid g (curI fs f))).2.2 0 (doesv (curI fs f) { f with at_ := f.at_ + 1 } (paid g (curI fs f))).1) := rfl
def FuelR (F : Int) (i : InsR) (f : Fr) (g : GS) : Prop := (doesv i f (fuelG F g)) = ((doesv i f g).1, (doesv i f g).2.1, fuelG F (doesv i f g).2.2)
def RelF (F : Int) (a b : Int × Fr × GS) : Prop := a = (b.1, b.2.1, fuelG F b.2.2)
theorem rel_ite {F : Int} {c : Prop} [Decidable c] {a b a' b' : Int × Fr × GS} (h1 : RelF F a b) (h2 : RelF F a' b') : RelF F (if c then a else a') (if c then b else b') := by split <;> assumption
theorem rel_opt {F : Int} {o : Option Int} {a b : Int → Int × Fr × GS} {a' b' : Int × Fr × GS} (h1 : ∀ n, RelF F (a n) (b n)) (h2 : RelF F a' b') : RelF F (match o with | some n => a n | none => a') (match o with | some n => b n | none => b') := by cases o with | none => exact h2 | some n => exact h1 n
theorem doesv_fuel (F : Int) (i : InsR) (f : Fr) (g : GS) : FuelR F i f g := by
  show RelF F (doesv i f (fuelG F g)) (doesv i f g)
  unfold doesv
  repeat' first
    | refine rel_ite ?_ ?_
    | refine rel_opt (fun n => ?_) ?_
  all_goals rfl
theorem step_fuel (fs : List FnR) (F : Int) (c : Conf) (h : ∀ g r, step fs c ≠ .over g r 8) (hF : ∀ frs g, c = .run frs g → g.fuel ≤ F) : step fs (fuelC F c) = fuelC F (step fs c) := by
  match c with
  | .over g r e => rfl
  | .run [] g => rfl
  | .run (f :: rest) g =>
    have hg := hF _ _ rfl
    have hne := h (paid g (curI fs f)) 0
    rw [step_eq] at hne ⊢
    show step fs (.run (f :: rest) (fuelG F g)) = _
    rw [step_eq]
    have e : paid (fuelG F g) (curI fs f) = fuelG F (paid g (curI fs f)) := rfl
    have e1 : (fuelG F (paid g (curI fs f))).now = (paid g (curI fs f)).now := rfl
    have e2 : (fuelG F (paid g (curI fs f))).fuel = F := rfl
    rw [e]
    by_cases hov : (paid g (curI fs f)).fuel < (paid g (curI fs f)).now
    · rw [if_pos hov] at hne
      exact absurd rfl hne
    · have hg2 : (paid g (curI fs f)).fuel ≤ F := hg
      have hov2 : ¬ (fuelG F (paid g (curI fs f))).fuel < (fuelG F (paid g (curI fs f))).now := by rw [e1, e2]; omega
      rw [if_neg hov, if_neg hov2, doesv_fuel F]
      simp only
      repeat' split
      all_goals first | rfl | skip
      unfold retC
      split <;> rfl
/-- what is told grows -/
structure Lt (a b : GS) : Prop where
  pr : a.pr <+: b.pr
  ke : a.ke <+: b.ke
  cl : a.cl <+: b.cl
  now : a.now ≤ b.now
  fuel : b.fuel = a.fuel
theorem Lt.refl (a : GS) : Lt a a := ⟨List.prefix_refl _, List.prefix_refl _, List.prefix_refl _, Int.le_refl _, rfl⟩
theorem Lt.trans {a b c : GS} (h : Lt a b) (k : Lt b c) : Lt a c := ⟨h.pr.trans k.pr, h.ke.trans k.ke, h.cl.trans k.cl, Int.le_trans h.now k.now, k.fuel.trans h.fuel⟩
def gOf : Conf → GS
  | .run _ g => g
  | .over g _ _ => g
theorem step_lt (fs : List FnR) (c : Conf) : Lt (gOf c) (gOf (step fs c)) := by
  match c with
  | .over g r e => exact Lt.refl _
  | .run [] g => exact Lt.refl _
  | .run (f :: rest) g =>
    have hc := cost_all (curI fs f).op
    have hp : Lt g (paid g (curI fs f)) := ⟨List.prefix_refl _, List.prefix_refl _, List.prefix_refl _, by show g.now ≤ g.now + _; omega, rfl⟩
    have hd : Lt g (doesv (curI fs f) { f with at_ := f.at_ + 1 } (paid g (curI fs f))).2.2 := by
      have hk := doesv_kept (curI fs f) { f with at_ := f.at_ + 1 } (paid g (curI fs f))
      have hr := doesv_rows (curI fs f) { f with at_ := f.at_ + 1 } (paid g (curI fs f))
      refine hp.trans ⟨hr.2.1, hr.2.2, ?_, by rw [hk.now]; exact Int.le_refl _, hk.fuel⟩
      rcases hr.1 with e | ⟨_, e⟩
      · rw [e]; exact List.prefix_refl _
      · rw [e]; exact List.prefix_append _ _
    rw [step_eq]
    repeat' split
    all_goals first | exact hp | exact hd | skip
    unfold retC
    split <;> exact hp
theorem iter_lt (fs : List FnR) : ∀ (k : Nat) (c : Conf), Lt (gOf c) (gOf (iter fs k c))
  | 0, c => Lt.refl _
  | k + 1, c => (step_lt fs c).trans (iter_lt fs k (step fs c))
theorem over8 (fs : List FnR) (F : Int) (c : Conf) {g : GS} {r : Int} (h : step fs c = .over g r 8) (hc : ∀ g' r' e', c ≠ .over g' r' e') :
    g.pr = (fuelG F (gOf c)).pr ∧ g.ke = (fuelG F (gOf c)).ke ∧ g.cl = (fuelG F (gOf c)).cl ∧ g.now ≤ (gOf (step fs (fuelC F c))).now := by
  match c with
  | .over g' r' e' => exact absurd rfl (hc g' r' e')
  | .run [] g0 => exact absurd h (fun h => by cases h)
  | .run (f :: rest) g0 =>
    have hnow : (paid (fuelG F g0) (curI fs f)).now ≤ (gOf (step fs (fuelC F (.run (f :: rest) g0)))).now := by
      show _ ≤ (gOf (step fs (.run (f :: rest) (fuelG F g0)))).now
      rw [step_eq]
      repeat' split
      all_goals first
        | exact Int.le_refl _
        | (show _ ≤ (doesv _ _ _).2.2.now; rw [(doesv_kept _ _ _).now]; exact Int.le_refl _)
        | skip
      unfold retC
      split <;> exact Int.le_refl _
    rw [step_eq] at h
    by_cases hov : (paid g0 (curI fs f)).fuel < (paid g0 (curI fs f)).now
    · rw [if_pos hov] at h
      injection h with h3 _ _
      subst h3
      exact ⟨rfl, rfl, rfl, hnow⟩
    · rw [if_neg hov] at h
      exfalso
      have hde := (doesv_err (curI fs f) { f with at_ := f.at_ + 1 } (paid g0 (curI fs f))).2
      split at h
      · unfold retC at h
        split at h <;> cases h
      split at h
      · split at h <;> cases h
      split at h
      · cases h
      split at h
      · split at h <;> cases h
      split at h
      · cases h
      · injection h with _ _ h5
        exact hde h5
/-- two fuels: the same, or as far -/
theorem iter_more (fs : List FnR) (F2 : Int) : ∀ (k : Nat) (c : Conf) (g : GS) (r e : Int), iter fs k c = .over g r e → (gOf c).fuel ≤ F2 → (∀ g' r' e', c ≠ .over g' r' e') → ∀ (m : Nat) (g2 : GS) (r2 e2 : Int), iter fs m (fuelC F2 c) = .over g2 r2 e2 →
    (e ≠ 8 → g2 = fuelG F2 g ∧ r2 = r ∧ e2 = e) ∧ Lt (fuelG F2 (gOf c)) g2 ∧ (e = 8 → g.pr <+: g2.pr ∧ g.ke <+: g2.ke ∧ g.cl <+: g2.cl ∧ g.now ≤ g2.now)
  | 0, c, g, r, e, h, _, hc, _, _, _, _, _ => absurd h (hc g r e)
  | k + 1, c, g, r, e, h, hf, hc, m, g2, r2, e2, h2 => by
    have h : iter fs k (step fs c) = .over g r e := h
    obtain ⟨m, rfl⟩ : ∃ m', m = m' + 1 := by
      cases m with
      | zero =>
        cases c with
        | run frs g0 => exact absurd h2 (fun h => by cases h)
        | over g0 r0 e0 => exact absurd rfl (hc g0 r0 e0)
      | succ m' => exact ⟨m', rfl⟩
    have h2 : iter fs m (step fs (fuelC F2 c)) = .over g2 r2 e2 := h2
    have hl1 := step_lt fs (fuelC F2 c)
    have hl2 := iter_lt fs m (step fs (fuelC F2 c))
    rw [h2] at hl2
    have eg : gOf (fuelC F2 c) = fuelG F2 (gOf c) := by cases c <;> rfl
    rw [eg] at hl1
    have hlt : Lt (fuelG F2 (gOf c)) g2 := hl1.trans hl2
    by_cases h8 : ∃ g' r', step fs c = .over g' r' 8
    · obtain ⟨g', r', h8⟩ := h8
      rw [h8, iter_over] at h
      injection h with h3 h4 h5
      subst h3 h4 h5
      refine ⟨fun h => absurd rfl h, hlt, fun _ => ?_⟩
      -- the step that did not go: the second one has paid as much
      have hs := over8 fs F2 c h8 hc
      refine ⟨?_, ?_, ?_, ?_⟩
      · rw [hs.1]; exact hlt.pr
      · rw [hs.2.1]; exact hlt.ke
      · rw [hs.2.2.1]; exact hlt.cl
      · exact Int.le_trans hs.2.2.2 hl2.now
    · have hn : ∀ g r, step fs c ≠ .over g r 8 := fun g r e => h8 ⟨g, r, e⟩
      have hsf := step_fuel fs F2 c hn (fun frs g0 e => by subst e; exact hf)
      rw [hsf] at h2
      by_cases ho : ∃ g' r' e', step fs c = .over g' r' e'
      · obtain ⟨g', r', e', ho⟩ := ho
        rw [ho, iter_over] at h
        rw [ho] at h2
        have h2 : iter fs m (.over (fuelG F2 g') r' e') = .over g2 r2 e2 := h2
        rw [iter_over] at h2
        injection h with h3 h4 h5
        injection h2 with h6 h7 h9
        subst h3 h4 h5 h6 h7 h9
        refine ⟨fun _ => ⟨rfl, rfl, rfl⟩, hlt, fun h => absurd (h ▸ ho) (hn _ _)⟩
      · have ih := iter_more fs F2 k (step fs c) g r e h (by rw [(step_lt fs c).fuel]; exact hf) (fun g' r' e' he => ho ⟨g', r', e', he⟩) m g2 r2 e2 h2
        exact ⟨ih.1, hlt, ih.2.2⟩
theorem runO_more {fs : List FnR} {i0 i1 : List Int} {f1 f2 quota : Int} {a b : OutR} (ha : RunO fs i0 i1 f1 quota a) (hb : RunO fs i0 i1 f2 quota b) (h0 : 0 ≤ f1) (h1 : f1 ≤ f2) (h2 : f2 ≤ 1048576) :
    (a.err ≠ 8 → a = b) ∧ (a.err = 8 → a.pr <+: b.pr ∧ a.ke <+: b.ke ∧ a.cl <+: b.cl ∧ a.clk ≤ b.clk) := by
  by_cases hc : CodeOk fs
  · obtain ⟨k, g, hk, ho⟩ := ha.ok hc
    obtain ⟨m, g', hm, ho'⟩ := hb.ok hc
    have e1 : clampf f1 = f1 := by unfold clampf; rw [if_neg (by omega), if_neg (by omega)]
    have e2 : clampf f2 = f2 := by unfold clampf; rw [if_neg (by omega), if_neg (by omega)]
    have ef : fuelC f2 (.run [newFr fs 0 []] (startG i0 i1 f1 quota)) = .run [newFr fs 0 []] (startG i0 i1 f2 quota) := by
      show Conf.run _ (fuelG f2 (startG i0 i1 f1 quota)) = _
      unfold startG fuelG
      rw [e2]
    have h := iter_more fs f2 k (.run [newFr fs 0 []] (startG i0 i1 f1 quota)) g a.res a.err hk (by show clampf f1 ≤ f2; omega) (fun _ _ _ h => by cases h) m g' b.res b.err (by rw [ef]; exact hm)
    refine ⟨fun h8 => ?_, fun h8 => ?_⟩
    · obtain ⟨x1, x2, x3⟩ := h.1 h8
      rw [ho, ho', x1, x2, x3]
      rfl
    · have h3 := h.2.2 h8
      rw [ho, ho']
      exact h3
  · rw [ha.no hc, hb.no hc]
    exact ⟨fun _ => rfl, fun h => by cases h⟩
end Go.Proofs.YtdpimkbdieafgaaDoor
