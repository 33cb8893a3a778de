/- verify: the looker; reaches. -/
import Derived.Test.YtdpimkbdieafgaaDoorVerA
import Derived.Test.YtdpimkbdieafgaaDoorChan
namespace Go.Proofs.YtdpimkbdieafgaaDoor
set_option linter.unusedVariables false
set_option linter.unusedSimpArgs false
open Go.RowKit Go.Conc

/-- the depth of a place that was reached -/
def lookv (V : List (Int × Int)) (p : Int) : Option Int := (V.find? (fun x => x.1 == p)).map (·.2)
theorem lookv_some {V : List (Int × Int)} {p d : Int} (h : lookv V p = some d) : (p, d) ∈ V := by
  unfold lookv at h
  obtain ⟨x, hx, rfl⟩ := Option.map_eq_some_iff.1 h
  have h1 := List.find?_some hx
  have h2 := List.mem_of_find?_eq_some hx
  simp at h1
  subst h1
  exact h2
theorem lookv_none {V : List (Int × Int)} {p : Int} (h : lookv V p = none) : ∀ x ∈ V, x.1 ≠ p := by
  unfold lookv at h
  rw [Option.map_eq_none_iff, List.find?_eq_none] at h
  intro x hx e
  exact h x hx (by simp [e])
theorem lookv_snoc (V : List (Int × Int)) (p d k : Int) (h : lookv V p = none) : lookv (V ++ [(p, d)]) k = if k = p then some d else lookv V k := by
  unfold lookv at h ⊢
  rw [List.find?_append]
  by_cases e : k = p
  · subst e
    rw [if_pos rfl]
    rw [Option.map_eq_none_iff] at h
    rw [h]
    simp
  · rw [if_neg e]
    have : (List.find? (fun x => x.1 == k) [(p, d)]) = none := by
      simp
      exact fun h => e h.symm
    rw [this]
    simp
def reachv (n : Nat) (V : List (Int × Int)) (p d : Int) : Bool × List (Int × Int) :=
  if 0 ≤ p ∧ p < (n : Int) then
    match lookv V p with
    | some q => (decide (q = d), V)
    | none => (true, V ++ [(p, d)])
  else (false, V)

def chanv (V : List (Int × Int)) (r : Nat) : Array Value := ((V.drop r).map fun x => Value.int .i64 x.1).toArray
structure LookIs (w : World) (X mb cb : Nat) (k : Nat) (f : FnR) (A : Option Addr) (c : Nat) (B : Option Addr) (d : Nat) (V : List (Int × Int)) (r : Nat) : Prop where
  box : LookBox w X k f A c B d mb cb
  map : VMap w mb V.length (lookv V)
  chan : w.heap[cb]? = some (.chan f.l.length (chanv V r) false V.length r false)
  nodup : (V.map (·.1)).Nodup
  range : ∀ x ∈ V, 0 ≤ x.1 ∧ x.1 < (f.l.length : Int)
  got : r ≤ V.length
theorem VMap.block {w : World} {b n : Nat} {M : Int → Option Int} (h : VMap w b n M) : ∃ es cl, w.heap[b]? = some (.map es cl) := by
  obtain ⟨D, ⟨es, clock, hb, r⟩, hM⟩ := h
  exact ⟨_, _, hb⟩
theorem LookIs.ne {w : World} {X mb cb : Nat} {k : Nat} {f : FnR} {A : Option Addr} {c : Nat} {B : Option Addr} {d : Nat} {V : List (Int × Int)} {r : Nat} (h : LookIs w X mb cb k f A c B d V r) : X ≠ mb ∧ X ≠ cb ∧ mb ≠ cb := by
  obtain ⟨es, cl, hb⟩ := h.map.block
  have h1 := h.box
  unfold LookBox at h1
  have h2 := h.chan
  refine ⟨fun e => ?_, fun e => ?_, fun e => ?_⟩
  · rw [e, hb] at h1; cases h1
  · rw [e, h2] at h1; cases h1
  · rw [e, h2] at hb; cases hb
/-- as many places as are reached there are -/
theorem pigeon : ∀ (n : Nat) (l : List Int), l.Nodup → (∀ x ∈ l, 0 ≤ x ∧ x < (n : Int)) → l.length ≤ n
  | 0, l, _, h => by
    cases l with
    | nil => simp
    | cons x l => have := h x (by simp); omega
  | n + 1, l, hn, h => by
    have h1 := pigeon n (l.filter (fun x => x != (n : Int))) (hn.filter _) (fun x hx => by
      rw [List.mem_filter] at hx
      have := h x hx.1
      have h2 : x ≠ (n : Int) := by simpa using hx.2
      omega)
    have h2 : l.length ≤ (l.filter (fun x => x != (n : Int))).length + 1 := by
      have e := List.length_eq_countP_add_countP (l := l) (fun x => x != (n : Int))
      rw [List.countP_eq_length_filter, List.countP_eq_length_filter] at e
      have h3 : (l.filter (fun x => decide ¬(x != (n : Int)) = true)).length ≤ 1 := by
        have h4 : (l.filter (fun x => decide ¬(x != (n : Int)) = true)) = l.filter (· == (n : Int)) := by
          congr 1; funext x; by_cases e : x = (n : Int) <;> simp [e]
        rw [h4]
        have h5 := List.count_eq_length_filter (a := (n : Int)) (l := l)
        rw [← h5]
        exact List.nodup_iff_count.1 hn _
      omega
    omega
theorem LookIs.count {w : World} {X mb cb : Nat} {k : Nat} {f : FnR} {A : Option Addr} {c : Nat} {B : Option Addr} {d : Nat} {V : List (Int × Int)} {r : Nat} (h : LookIs w X mb cb k f A c B d V r) : V.length ≤ f.l.length := by
  have := pigeon f.l.length (V.map (·.1)) h.nodup (fun x hx => by
    obtain ⟨y, hy, rfl⟩ := List.mem_map.1 hx
    exact h.range y hy)
  rwa [List.length_map] at this
theorem LookIs.room {w : World} {X mb cb : Nat} {k : Nat} {f : FnR} {A : Option Addr} {c : Nat} {B : Option Addr} {d : Nat} {V : List (Int × Int)} {r : Nat} (h : LookIs w X mb cb k f A c B d V r) {p : Int} (hp : 0 ≤ p ∧ p < (f.l.length : Int)) (hn : lookv V p = none) : V.length < f.l.length := by
  have h1 : p ∉ V.map (·.1) := fun hm => by
    obtain ⟨y, hy, e⟩ := List.mem_map.1 hm
    exact lookv_none hn y hy e
  have := pigeon f.l.length (p :: V.map (·.1)) (List.nodup_cons.2 ⟨h1, h.nodup⟩) (fun x hx => by
    rcases List.mem_cons.1 hx with rfl | hx
    · exact hp
    · obtain ⟨y, hy, rfl⟩ := List.mem_map.1 hx
      exact h.range y hy)
  rw [List.length_cons, List.length_map] at this
  omega
theorem chanv_snoc (V : List (Int × Int)) (r : Nat) (p d : Int) (h : r ≤ V.length) : chanv (V ++ [(p, d)]) r = (chanv V r).push (.int .i64 p) := by
  unfold chanv
  rw [List.drop_append_of_le_length h]
  simp
theorem LookIs.kept {w w' : World} {X mb cb : Nat} {k : Nat} {f : FnR} {A : Option Addr} {c : Nat} {B : Option Addr} {d : Nat} {V : List (Int × Int)} {r : Nat} {T : Nat → Prop} (h : LookIs w X mb cb k f A c B d V r) (hc : Chg T w w') (h1 : ¬ T X) (h2 : ¬ T mb) (h3 : ¬ T cb) : LookIs w' X mb cb k f A c B d V r :=
  ⟨hc.heap h.box h1, h.map.kept hc h2, hc.heap h.chan h3, h.nodup, h.range, h.got⟩
theorem LookIs.keep {w w' : World} {X mb cb : Nat} {k : Nat} {f : FnR} {A : Option Addr} {c : Nat} {B : Option Addr} {d : Nat} {V : List (Int × Int)} {r : Nat} (h : LookIs w X mb cb k f A c B d V r) (hb : Below w.heap.size w w') : LookIs w' X mb cb k f A c B d V r :=
  h.kept (Below.chg hb) (fun x => x) (fun x => x) (fun x => x)
theorem LookIs.heap {w w' : World} {X mb cb : Nat} {k : Nat} {f : FnR} {A : Option Addr} {c : Nat} {B : Option Addr} {d : Nat} {V : List (Int × Int)} {r : Nat} (h : LookIs w X mb cb k f A c B d V r) (e : w'.heap = w.heap) : LookIs w' X mb cb k f A c B d V r :=
  ⟨by have := h.box; unfold LookBox at this ⊢; rw [e]; exact this, h.map.heap e, by rw [e]; exact h.chan, h.nodup, h.range, h.got⟩
theorem Chg.setChan {S : Nat → Prop} {a b : World} (h : Chg S a b) {ch : Nat} (hp : S ch) (cap : Nat) (buf : Array Value) (cl : Bool) (s r : Nat) (tm : Bool) : Chg S a (b.setChan ch cap buf cl s r tm) :=
  h.then ⟨rfl, rfl, rfl, by simp [World.setChan], fun k _ hn => by
    simp only [World.setChan]
    rw [Array.getElem?_setIfInBounds_ne (fun e => hn (by rw [← e]; exact hp))]⟩

set_option maxHeartbeats 4000000 in
set_option maxRecDepth 100000 in
theorem reaches_any {w : World} {X mb cb : Nat} {k : Nat} {f : FnR} {A : Option Addr} {c : Nat} {B : Option Addr} {d : Nat} {V : List (Int × Int)} {r : Nat} (h : LookIs w X mb cb k f A c B d V r) (hl : f.l.length ≤ 1048576) (p dp : Int) :
    Calls Tryd.prog 39 #[.pointer (some ⟨X, 0, none⟩), .int .i64 p, .int .i64 dp] w fun e w' => e = .returned (.bool (reachv f.l.length V p dp).1) ∧ LookIs w' X mb cb k f A c B d (reachv f.l.length V p dp).2 r ∧ Chg (fun x => x = mb ∨ x = cb) w w' := by
  have CI := Lib.hid (in_any p 0 (f.l.length : Int) w)
  have HL := Lib.hid h
  have hx := h.box
  unfold LookBox at hx
  have y5 := cell_of_block hx 5
  have y6 := cell_of_block hx 6
  have y7 := cell_of_block hx 7
  simp at y5 y6 y7
  have HX := Lib.hid hx
  obtain ⟨R, hR⟩ : ∃ R, R = reachv f.l.length V p dp := ⟨_, rfl⟩
  rw [← hR]
  obtain ⟨n, hn⟩ : ∃ n, n = f.l.length := ⟨_, rfl⟩
  rw [← hn] at CI y5 hl
  have HN := Lib.hid hn
  clear h hx
  by_cases hp : 0 ≤ p ∧ p < (n : Int)
  · rw [decide_eq_true hp] at CI
    have hpw : (Lit.int .i64 p).wf = true := by
      have : IntKind.i64.min ≤ p ∧ p ≤ IntKind.i64.max := ⟨by show (-9223372036854775808 : Int) ≤ p; omega, by show p ≤ (9223372036854775807 : Int); omega⟩
      simpa [Lit.wf] using this
    have hlk := HL.out.map.look_ok p hpw
    have HP := Lib.hid hp
    cases hv : lookv V p with
    | some q =>
      have hR2 : R = (decide (q = dp), V) := by rw [hR]; unfold reachv; rw [← hn, if_pos hp, hv]
      clear hR
      subst hR2
      rw [hv] at hlk
      simp only [Option.getD_some, Option.isSome_some] at hlk
      clear hv hn hp
      go_enter Tryd.func39, Tryd.ntmps39
      go_wp2_with fail
      refine CI.out.mono ?_; rintro e w1 ⟨rfl, rfl⟩
      by_cases hq : q = dp
      · subst hq
        go_wp2_with fail
        go_ret
        exact ⟨by simp, HL.out, Chg.refl _ _⟩
      · have t1 : (q == dp) = false := by rw [beq_eq_false_iff_ne]; exact hq
        have t2 : decide (q = dp) = false := decide_eq_false hq
        have HQ := Lib.hid hq
        clear hq
        go_wp2_with fail
        go_ret
        exact ⟨by first | rfl | simp [HQ.out], HL.out, Chg.refl _ _⟩
    | none =>
      have hR2 : R = (true, V ++ [(p, dp)]) := by rw [hR]; unfold reachv; rw [← hn, if_pos hp, hv]
      clear hR
      subst hR2
      rw [hv] at hlk
      simp only [Option.getD_none, Option.isSome_none] at hlk
      have HV := Lib.hid hv
      have hroom := HL.out.room (by rw [← hn]; exact hp) hv
      rw [← hn] at hroom
      have hgot := HL.out.got
      have HG := Lib.hid (And.intro hroom hgot)
      obtain ⟨w2, hup, hmap2, hc2⟩ := HL.out.map.store p hpw dp (by unfold maxLen; omega)
      obtain ⟨ne1, ne2, ne3⟩ := HL.out.ne
      have hx2 := hc2.heap HX.out (fun e => ne1 e)
      have hch2 := hc2.heap HL.out.chan (fun e => ne3 e.symm)
      have z7 := cell_of_block hx2 7
      simp at z7
      have HM2 := Lib.hid hmap2
      have HC2 := Lib.hid hc2
      have HX2 := Lib.hid hx2
      have HCH2 := Lib.hid hch2
      have HNE := Lib.hid (And.intro ne1 (And.intro ne2 ne3))
      have HSZ : Hid ((chanv V r).size < n) := Lib.hid (by
        have : (chanv V r).size = V.length - r := by simp [chanv]
        omega)
      clear hv hn hp hroom hgot hmap2 hc2 hx2 hch2 ne1 ne2 ne3
      refine calls_of_wpn Tryd.func39 rfl ?_
      simp only [Tryd.ntmps39, List.size_toArray, List.length_cons, List.length_nil, Nat.reduceAdd, Nat.reduceSub, Array.replicate_succ, Array.replicate_zero, List.push_toArray, List.append_toArray, List.nil_append, List.cons_append]
      refine wpn_seq_k (fun K hK => ?_)
      go_wp2_with fail
      try clear hK
      try clear K
      refine wpn_seq_k (fun K hK => ?_)
      go_wp2_with fail
      refine CI.out.mono ?_; rintro e w1 ⟨rfl, rfl⟩
      go_wp2_with fail
      try clear hK
      try clear K
      refine wpn_seq_k (fun K hK => ?_)
      go_wp2_with fail
      try clear hK
      try clear K
      refine wpn_seq_k (fun K hK => ?_)
      go_wp2_with fail
      try clear hK
      try clear K
      refine wpn_seq_k (fun K hK => ?_)
      go_wp2_with fail
      try clear hK
      try clear K
      clear y5 y6 y7 hlk hup
      refine wpn_seq ?_
      refine wpn_region ?_
      show opsn _ _ _ [0, 1, 2, 3, 4, 5] _ _
      iterate 5 (refine opsn_look rfl rfl (by go_simp; with_reducible rfl) ?_; simp only [Act.put, List.setIfInBounds_toArray, List.set_cons_succ, List.set_cons_zero])
      refine opsn_send rfl rfl (w₁ := w2) (c := cb) (v := .int .i64 p) (z := .tuple #[]) (by simp [go_sem, execOp, scase, Act.eval]) (by rw [HCH2.out, ← HN.out]) HSZ.out ?_
      simp only [Act.put]
      refine opsn_end ?_
      refine wpn_of_wp ?_
      obtain ⟨w3, hw3⟩ : ∃ w3, w3 = w2.setChan cb n ((chanv V r).push (.int .i64 p)) false (V.length + 1) r false := ⟨_, rfl⟩
      have HC3 : Hid (Chg (fun x => x = cb) w2 w3) := Lib.hid (by rw [hw3]; exact (Chg.refl (fun x => x = cb) w2).setChan (ch := cb) rfl _ _ _ _ _ _)
      have HB3 : Hid (w3.heap[cb]? = some (.chan f.l.length (chanv (V ++ [(p, dp)]) r) false (V ++ [(p, dp)]).length r false)) := Lib.hid (by
        rw [hw3, ← HN.out, chanv_snoc V r p dp HG.out.2, List.length_append]
        exact heap_setChan _ _ _ _ _ _ _ _ (lt_of_heap HCH2.out))
      rw [← hw3]
      clear hw3
      go_wp2_with fail
      go_ret
      refine ⟨rfl, ⟨HC3.out.heap HX2.out HNE.out.2.1, ?_, HB3.out, ?_, ?_, ?_⟩, (HC2.out.mono (fun _ _ e => .inl e)).then (HC3.out.mono (fun _ _ e => .inr e))⟩
      · have h1 := HM2.out.kept HC3.out HNE.out.2.2
        have e : (fun x => if x = p then some dp else lookv V x) = lookv (V ++ [(p, dp)]) := by funext x; rw [lookv_snoc V p dp x HV.out]
        rw [e] at h1
        rw [List.length_append]
        exact h1
      · rw [List.map_append, List.nodup_append]
        refine ⟨HL.out.nodup, by simp, fun a ha b hb e => ?_⟩
        obtain ⟨y, hy, rfl⟩ := List.mem_map.1 ha
        have hb : b = p := by simpa using hb
        exact lookv_none HV.out y hy (by rw [e, hb])
      · intro x hx
        rcases List.mem_append.1 hx with hx | hx
        · exact HL.out.range x hx
        · have : x = (p, dp) := by simpa using hx
          rw [this, ← HN.out]
          exact HP.out
      · rw [List.length_append]
        have := HG.out.2
        omega
  · have hR2 : R = (false, V) := by rw [hR]; unfold reachv; rw [← hn, if_neg hp]
    clear hR
    subst hR2
    rw [decide_eq_false hp] at CI
    clear hp hn
    go_enter Tryd.func39, Tryd.ntmps39
    go_wp2_with fail
    refine CI.out.mono ?_; rintro e w1 ⟨rfl, rfl⟩
    go_wp2_with fail
    go_ret
    exact ⟨rfl, HL.out, Chg.refl _ _⟩
end Go.Proofs.YtdpimkbdieafgaaDoor
