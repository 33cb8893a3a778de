/- Plain laws over the machine: the clock's bounds; with more fuel it goes as far. -/
import Derived.Test.YtdpimkbdieafgaaDoorLaw14
namespace Go.Proofs.YtdpimkbdieafgaaDoor
set_option linter.unusedVariables false
set_option linter.unusedSimpArgs false
open Go.RowKit

theorem cost_all (op : Int) : 0 ≤ costv op ∧ costv op ≤ 20 := by
  have h : ∀ i, i < 26 → 0 ≤ 1 + (sorts.getD i ⟨ByteArray.empty, 0, 0, 0, 0⟩).more ∧ 1 + (sorts.getD i ⟨ByteArray.empty, 0, 0, 0, 0⟩).more ≤ 20 := by decide
  unfold costv sortAt
  by_cases hk : op.toNat < 26
  · exact h _ hk
  · rw [List.getD_eq_getElem?_getD, List.getElem?_eq_none (by have : sorts.length = 26 := rfl; omega)]
    decide
def ErrR (r : Int × Fr × GS) : Prop := r.1 ≠ 6 ∧ r.1 ≠ 8
theorem err_ite {c : Prop} [Decidable c] {a b : Int × Fr × GS} (h1 : ErrR a) (h2 : ErrR b) : ErrR (if c then a else b) := by split <;> assumption
theorem err_opt {o : Option Int} {a : Int → Int × Fr × GS} {b : Int × Fr × GS} (h1 : ∀ n, ErrR (a n)) (h2 : ErrR b) : ErrR (match o with | some n => a n | none => b) := by cases o with | none => exact h2 | some n => exact h1 n
theorem makev_err (q : Int) (xss : List (List Int)) (n : Int) : (makev q xss n).2.1 ≠ 6 ∧ (makev q xss n).2.1 ≠ 8 := by
  unfold makev
  repeat' split
  all_goals simp
theorem doesv_err (i : InsR) (f : Fr) (g : GS) : (doesv i f g).1 ≠ 6 ∧ (doesv i f g).1 ≠ 8 := by
  show ErrR (doesv i f g)
  unfold doesv
  repeat' first
    | refine err_ite ?_ ?_
    | refine err_opt (fun n => ?_) ?_
  all_goals first | exact ⟨(by decide : (0 : Int) ≠ 6), (by decide : (0 : Int) ≠ 8)⟩ | exact ⟨(by decide : (7 : Int) ≠ 6), (by decide : (7 : Int) ≠ 8)⟩ | exact makev_err _ _ _
def RowsR (i : InsR) (g : GS) (r : Int × Fr × GS) : Prop := (r.2.2.cl = g.cl ∨ (i.op = 25 ∧ r.2.2.cl = g.cl ++ [g.now])) ∧ g.pr <+: r.2.2.pr ∧ g.ke <+: r.2.2.ke
theorem rows_ite {i : InsR} {g : GS} {c : Prop} [Decidable c] {a b : Int × Fr × GS} (h1 : c → RowsR i g a) (h2 : ¬ c → RowsR i g b) : RowsR i g (if c then a else b) := by
  split
  · exact h1 ‹_›
  · exact h2 ‹_›
theorem rows_opt {i : InsR} {g : GS} {o : Option Int} {a : Int → Int × Fr × GS} {b : Int × Fr × GS} (h1 : ∀ n, RowsR i g (a n)) (h2 : RowsR i g b) : RowsR i g (match o with | some n => a n | none => b) := by cases o with | none => exact h2 | some n => exact h1 n
theorem doesv_rows (i : InsR) (f : Fr) (g : GS) : RowsR i g (doesv i f g) := by
  unfold doesv
  repeat' first
    | refine rows_ite (fun h => ?_) (fun h => ?_)
    | refine rows_opt (fun n => ?_) ?_
  all_goals first
    | exact ⟨.inl rfl, List.prefix_refl _, List.prefix_refl _⟩
    | exact ⟨.inl rfl, List.prefix_append _ _, List.prefix_refl _⟩
    | exact ⟨.inl rfl, List.prefix_refl _, List.prefix_append _ _⟩
    | exact ⟨.inr ⟨by assumption, rfl⟩, List.prefix_refl _, List.prefix_refl _⟩

/-! ### bounds -/
def Cl (g : GS) (F : Int) : Prop := (0 :: g.cl).Pairwise (· < ·) ∧ ∀ x ∈ g.cl, x ≤ g.now ∧ x ≤ F
def BInv (F : Int) : Conf → Prop
  | .run _ g => g.fuel = F ∧ 0 ≤ g.now ∧ g.now ≤ F ∧ Cl g F
  | .over g r e => Cl g F ∧ 0 ≤ g.now ∧ g.now ≤ F + 20 ∧ (F < g.now ↔ e = 8) ∧ e ≠ 6 ∧ (e = 0 ∨ r = 0)
theorem Cl.later {g g' : GS} {F : Int} (h : Cl g F) (hc : g'.cl = g.cl) (hn : g.now ≤ g'.now) : Cl g' F := by
  unfold Cl
  rw [hc]
  exact ⟨h.1, fun x hx => ⟨Int.le_trans (h.2 x hx).1 hn, (h.2 x hx).2⟩⟩
theorem step_binv (fs : List FnR) (F : Int) (c : Conf) (h : BInv F c) : BInv F (step fs c) := by
  match c, h with
  | .over g r e, h => exact h
  | .run [] g, ⟨h1, h2, h3, h4⟩ => exact ⟨h4, h2, by omega, ⟨fun h => by omega, fun h => by cases h⟩, by decide, .inl rfl⟩
  | .run (f :: rest) g, ⟨h1, h2, h3, h4⟩ =>
    have hc := cost_all (curI fs f).op
    have hp : Cl (paid g (curI fs f)) F := h4.later rfl (by show g.now ≤ g.now + _; omega)
    have hpn : (paid g (curI fs f)).now = g.now + costv (curI fs f).op := rfl
    have hpf : (paid g (curI fs f)).fuel = F := h1
    have e : step fs (.run (f :: rest) g) = (if (paid g (curI fs f)).fuel < (paid g (curI fs f)).now then .over (paid g (curI fs f)) 0 8
      else if (curI fs f).op = 18 then retC (top f.stack) rest (paid g (curI fs f))
      else if (curI fs f).op = 16 then (if top f.stack = 0 then .run ({ f with at_ := (curI fs f).a.toNat, stack := f.stack.dropLast } :: rest) (paid g (curI fs f)) else .run ({ f with at_ := f.at_ + 1, stack := f.stack.dropLast } :: rest) (paid g (curI fs f)))
      else if (curI fs f).op = 15 then .run ({ f with at_ := (curI fs f).a.toNat } :: rest) (paid g (curI fs f))
      else if (curI fs f).op = 17 then
        (if 64 < rest.length + 1 then .over (paid g (curI fs f)) 0 3
         else .run (newFr fs (curI fs f).a.toNat (f.stack.drop (f.stack.length - parsOf fs (curI fs f).a)) :: { f with at_ := f.at_ + 1, stack := f.stack.take (f.stack.length - parsOf fs (curI fs f).a) } :: rest) (paid g (curI fs f)))
      else if (doesv (curI fs f) { f with at_ := f.at_ + 1 } (paid g (curI fs f))).1 = 0 then .run ((doesv (curI fs f) { f with at_ := f.at_ + 1 } (paid g (curI fs f))).2.1 :: rest) (doesv (curI fs f) { f with at_ := f.at_ + 1 } (paid g (curI fs f))).2.2 else .over (doesv (curI fs f) { f with at_ := f.at_ + 1 } (paid g (curI fs f))).2.2 0 (doesv (curI fs f) { f with at_ := f.at_ + 1 } (paid g (curI fs f))).1) := rfl
    rw [e]
    by_cases hov : (paid g (curI fs f)).fuel < (paid g (curI fs f)).now
    · rw [if_pos hov]
      exact ⟨hp, by omega, by omega, ⟨fun _ => rfl, fun _ => by omega⟩, by decide, .inr rfl⟩
    · rw [if_neg hov]
      have hrun : ∀ frs, BInv F (.run frs (paid g (curI fs f))) := fun frs => ⟨hpf, by omega, by omega, hp⟩
      have hover : ∀ r e, e ≠ 8 → e ≠ 6 → (e = 0 ∨ r = 0) → BInv F (.over (paid g (curI fs f)) r e) := fun r e h8 h6 h0 => ⟨hp, by omega, by omega, ⟨fun h => by omega, fun h => absurd h h8⟩, h6, h0⟩
      repeat' split
      all_goals first
        | exact hrun _
        | exact hover _ _ (by decide) (by decide) (.inr rfl)
        | skip
      · unfold retC
        split
        · exact hover _ _ (by decide) (by decide) (.inl rfl)
        · exact hrun _
      all_goals
        have hk := doesv_kept (curI fs f) { f with at_ := f.at_ + 1 } (paid g (curI fs f))
        have he := doesv_err (curI fs f) { f with at_ := f.at_ + 1 } (paid g (curI fs f))
        have hr := (doesv_rows (curI fs f) { f with at_ := f.at_ + 1 } (paid g (curI fs f))).1
        have hcl : Cl (doesv (curI fs f) { f with at_ := f.at_ + 1 } (paid g (curI fs f))).2.2 F := by
          rcases hr with hr | ⟨h25, hr⟩
          · exact hp.later hr (by rw [hk.now]; exact Int.le_refl _)
          · have hc1 : 1 ≤ costv (curI fs f).op := by rw [h25]; decide
            unfold Cl
            rw [hr, hk.now]
            refine ⟨?_, fun x hx => ?_⟩
            · rw [← List.cons_append, List.pairwise_append]
              refine ⟨hp.1, by simp, fun a ha b hb => ?_⟩
              rw [List.mem_singleton.1 hb]
              rcases List.mem_cons.1 ha with rfl | ha
              · omega
              · have := (h4.2 a ha).1; omega
            · rcases List.mem_append.1 hx with hx | hx
              · exact hp.2 x hx
              · rw [List.mem_singleton.1 hx]; exact ⟨Int.le_refl _, by omega⟩
      · exact ⟨by rw [hk.fuel]; exact hpf, by rw [hk.now]; omega, by rw [hk.now]; omega, hcl⟩
      · exact ⟨hcl, by rw [hk.now]; omega, by rw [hk.now]; omega, ⟨fun h => by rw [hk.now] at h; omega, fun h => absurd h he.2⟩, he.1, .inr rfl⟩
theorem iter_binv (fs : List FnR) (F : Int) : ∀ (k : Nat) (c : Conf), BInv F c → BInv F (iter fs k c)
  | 0, c, h => h
  | k + 1, c, h => iter_binv fs F k _ (step_binv fs F c h)
theorem runO_bounds {fs : List FnR} {i0 i1 : List Int} {fuel quota : Int} {o : OutR} (h : RunO fs i0 i1 fuel quota o) (h0 : 0 ≤ fuel) (h1 : fuel ≤ 3000) :
    (0 :: o.cl).Pairwise (· < ·) ∧ (∀ x ∈ o.cl, x ≤ fuel) ∧ (o.err = 6 → o.clk = 0) ∧ (o.err ≠ 6 → (∀ x ∈ o.cl, x ≤ o.clk) ∧ 0 ≤ o.clk ∧ o.clk ≤ fuel + 20 ∧ (fuel < o.clk ↔ o.err = 8) ∧ (o.err = 0 ∨ o.res = 0)) := by
  by_cases hc : CodeOk fs
  · obtain ⟨k, g, hk, ho⟩ := h.ok hc
    have e : clampf fuel = fuel := by unfold clampf; rw [if_neg (by omega), if_neg (by omega)]
    have hb := iter_binv fs fuel k (.run [newFr fs 0 []] (startG i0 i1 fuel quota)) ⟨e, Int.le_refl _, h0, by simp [Cl, startG], fun x hx => by cases hx⟩
    rw [hk] at hb
    obtain ⟨c1, c2, c3, c4, c5, c6⟩ := hb
    have ecl : o.cl = g.cl := by rw [ho]; rfl
    have eck : o.clk = g.now := by rw [ho]; rfl
    rw [ecl, eck]
    exact ⟨c1.1, fun x hx => (c1.2 x hx).2, fun h => absurd h c5, fun _ => ⟨fun x hx => (c1.2 x hx).1, c2, c3, c4, c6⟩⟩
  · rw [h.no hc]
    exact ⟨by simp, (fun x hx => by cases hx), fun _ => rfl, fun h => absurd rfl h⟩
end Go.Proofs.YtdpimkbdieafgaaDoor
