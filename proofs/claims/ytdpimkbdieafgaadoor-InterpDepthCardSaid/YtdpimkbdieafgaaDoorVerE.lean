/- verify: Code. -/
import Derived.Test.YtdpimkbdieafgaaDoorVerD
import Derived.Deep.LoopGhost
namespace Go.Proofs.YtdpimkbdieafgaaDoor
set_option linter.unusedVariables false
set_option linter.unusedSimpArgs false
open Go.RowKit Go.Conc

def goodF (fs : List FnR) (f : FnR) : Prop := hdr f ∧ STy fs f
def CodeOk (fs : List FnR) : Prop := (1 ≤ fs.length ∧ fs.length < 34) ∧ (fs.getD 0 noFn).ps = 0 ∧ ∀ f ∈ fs, goodF fs f
theorem right_good {w : World} {fs : List FnR} {f : FnR} {e : Ending} {w' : World} (h : RightP w fs f e w') : ∃ b, e = .returned (.bool b) ∧ Below w.heap.size w w' ∧ (b = true ↔ goodF fs f) := by
  obtain ⟨b, h1, h2, h3, h4⟩ := h
  refine ⟨b, h1, h2, h3, fun hg => ?_⟩
  cases b with
  | true => rfl
  | false =>
    obtain ⟨g1, V, g2, _⟩ := hg
    exact absurd ⟨g1, _, g2⟩ (h4 rfl)

set_option maxHeartbeats 1000000 in
set_option maxRecDepth 100000 in
theorem wrong_any {w : World} {fs : List FnR} {f : FnR} {A : Option Addr} {c : Nat} {B : Option Addr} {d : Nat} {Q : Nat} (hs : SortsIs w) (hq : w.heap[Q]? = some (.cells #[.slice A fs.length c] 24 (0, 0)))
    (hfs : FnsIs w (.slice A fs.length c) fs) (hkn : fs.length ≤ 1048576) (hsrc : Src w (.slice B f.l.length d) f.l.length (insCells f.l)) (hl : f.l.length ≤ 1048576) :
    Calls Tryd.prog 24 #[.agg #[.string f.nm, .int .i64 f.ps, .int .i64 f.vs, .int .i64 f.ar, .slice B f.l.length d], .pointer (some ⟨Q, 0, none⟩)] w fun e w' => ∃ b, e = .returned (.bool b) ∧ Below w.heap.size w w' ∧ (b = false ↔ goodF fs f) := by
  obtain ⟨w0, hw0⟩ : ∃ w0, w0 = w.alloc (.cells #[.string f.nm, .int .i64 f.ps, .int .i64 f.vs, .int .i64 f.ar, .slice B f.l.length d] 46) := ⟨_, rfl⟩
  have hb0 : Below w.heap.size w w0 := by rw [hw0]; exact (Below.refl _ _).alloc (Nat.le_refl _) _
  have x0 := cell_of_block ((Below.chg hb0).heap hq (fun x => x)) 0
  obtain ⟨P0, hP0⟩ : ∃ P0, P0 = w.heap.size := ⟨_, rfl⟩
  have hp0 : w0.heap[P0]? = some (.cells #[.string f.nm, .int .i64 f.ps, .int .i64 f.vs, .int .i64 f.ar, .slice B f.l.length d] 46 (0, 0)) := by rw [hw0]; exact heap_new' hP0.symm
  have y0 := cell_of_block hp0 0
  have y1 := cell_of_block hp0 1
  have y2 := cell_of_block hp0 2
  have y3 := cell_of_block hp0 3
  have y4 := cell_of_block hp0 4
  simp at x0 y0 y1 y2 y3 y4
  have CR := Lib.hid (right_any (hs.keep hb0) (hfs.keep hb0) hkn (hsrc.keepB hb0) hl)
  have HB0 := Lib.hid hb0
  have HWE := Lib.hid (And.intro hw0 hP0)
  obtain ⟨k, hk⟩ : ∃ k, k = fs.length := ⟨_, rfl⟩
  obtain ⟨n, hn⟩ : ∃ n, n = f.l.length := ⟨_, rfl⟩
  rw [← hk, ← hn] at CR
  rw [← hk] at x0
  rw [← hn] at HWE y4
  rw [← hn]
  clear hq hfs hsrc hs hb0 hw0 hk hn hp0 hP0
  go_enter Tryd.func24, Tryd.ntmps24
  go_upto_region 1 with fail
  rw [← HWE.out.1, ← HWE.out.2]
  go_wp2_with fail
  refine CR.out.mono ?_; intro e w1 hrp
  obtain ⟨b, rfl, hb, hg⟩ := right_good hrp
  have HG := Lib.hid (And.intro (bel_trans HB0.out hb) hg)
  clear hrp hb hg
  cases b with
  | true =>
    go_wp2_with fail
    go_ret
    exact ⟨false, rfl, HG.out.1, ⟨fun _ => HG.out.2.1 (by first | rfl | trivial), fun _ => rfl⟩⟩
  | false =>
    go_wp2_with fail
    go_ret
    exact ⟨true, rfl, HG.out.1, ⟨(fun h => by cases h), fun h => absurd (HG.out.2.2 h) (by decide)⟩⟩

set_option maxHeartbeats 2000000 in
set_option maxRecDepth 100000 in
theorem vidx_any {w : World} {fs : List FnR} {A : Option Addr} {c : Nat} {Q : Nat} (hs : SortsIs w) (hq : w.heap[Q]? = some (.cells #[.slice A fs.length c] 24 (0, 0)))
    (hfs : FnsIs w (.slice A fs.length c) fs) (hkn : fs.length ≤ 1048576) (hl : ∀ f ∈ fs, f.l.length ≤ 1048576) :
    Calls Tryd.prog 41 #[.slice A fs.length c, .func (.func 24) #[] #[.pointer (some ⟨Q, 0, none⟩)]] w fun e w' => (∃ r : Int, e = .returned (.int .i64 r) ∧ (decide (0 ≤ r) = false ↔ ∀ f ∈ fs, goodF fs f)) ∧ Below w.heap.size w w' := by
  obtain ⟨n, hn⟩ : ∃ n, n = fs.length := ⟨_, rfl⟩
  have HS := Lib.hid hs
  have HQ := Lib.hid hq
  have HF := Lib.hid hfs
  have HL := Lib.hid hl
  have HN := Lib.hid hn
  have HKN := Lib.hid hkn
  rw [← hn] at hkn ⊢
  clear hs hq hfs hl hn
  go_enter Tryd.func41, Tryd.ntmps41
  go_wp2_with fail
  go_loopg [8] n (fun kk i wr => ∃ j : Nat, j ≤ n ∧ kk = n - j ∧ i = .int .i64 j ∧ Hid (∀ f ∈ fs.take j, goodF fs f) ∧ Hid (Below w.heap.size w wr))
  case atStart => exact ⟨0, by omega, rfl, rfl, Lib.hid (by simp), Lib.hid (Below.refl _ _)⟩
  case round =>
    obtain ⟨j, hj, hk, rfl, HA, HB⟩ := hrel
    have HK := Lib.hid hk
    clear hk
    by_cases hlt : j < n
    · have hjl : j < fs.length := by rw [← HN.out]; exact hlt
      obtain ⟨b, off, cap, A2, c2, e, hb, hcp, ⟨c0, c1, c2', c3, c4⟩, hsrc⟩ := (HF.out.keep HB.out).get j hjl
      injection e with e1 e2 e3
      subst e1 e3
      have htk := List.take_succ_eq_append_getElem hjl
      have hfl := HL.out _ (List.getElem_mem hjl)
      have hmem : fs[j] ∈ fs := List.getElem_mem hjl
      obtain ⟨f, hf⟩ : ∃ f, fs[j] = f := ⟨_, rfl⟩
      rw [hf] at c0 c1 c2' c3 c4 hsrc htk hfl hmem
      have CW := Lib.hid (wrong_any (w := wr) (f := f) (HS.out.keep HB.out) ((Below.chg HB.out).heap HQ.out (fun x => x)) (HF.out.keep HB.out) HKN.out hsrc hfl)
      have HTK := Lib.hid (And.intro htk hmem)
      rw [← HN.out] at hcp
      obtain ⟨n2, hn2⟩ : ∃ n2, n2 = f.l.length := ⟨_, rfl⟩
      rw [← hn2] at CW c4
      obtain ⟨nm, hnm⟩ : ∃ nm, nm = f.nm := ⟨_, rfl⟩
      obtain ⟨ps, hps⟩ : ∃ ps, ps = f.ps := ⟨_, rfl⟩
      obtain ⟨vs, hvs⟩ : ∃ vs, vs = f.vs := ⟨_, rfl⟩
      obtain ⟨ar, har⟩ : ∃ ar, ar = f.ar := ⟨_, rfl⟩
      rw [← hnm, ← hps, ← hvs, ← har] at CW
      rw [← hnm] at c0
      rw [← hps] at c1
      rw [← hvs] at c2'
      rw [← har] at c3
      clear hnm hps hvs har hn2 hf htk hsrc hfl hmem hjl e2
      go_wp2_with fail
      refine CW.out.mono ?_; rintro e w1 ⟨h, rfl, hb1, hg⟩
      have HB1 := Lib.hid (bel_trans HB.out hb1)
      have HG := Lib.hid hg
      clear hb1 c0 c1 c2' c3 c4 hg
      cases h with
      | true =>
        go_wp2_with fail
        go_ret
        refine ⟨⟨j, rfl, ?_⟩, HB1.out⟩
        rw [decide_eq_true (by omega)]
        refine ⟨(fun h => by cases h), fun h => ?_⟩
        exact absurd (HG.out.2 (h _ HTK.out.2)) (by decide)
      | false =>
        have HA1 : Hid (∀ f ∈ fs.take (j + 1), goodF fs f) := Lib.hid (fun f' hf' => by
          rw [HTK.out.1] at hf'
          rcases List.mem_append.1 hf' with hf' | hf'
          · exact HA.out f' hf'
          · rw [List.mem_singleton.1 hf']; exact HG.out.1 rfl)
        go_wp2_with fail
        go_roundg (n - (j + 1))
        case measure => have := HK.out; omega
        case rel => exact ⟨j + 1, by omega, rfl, by go_num, HA1, HB1⟩
    · go_wp2_with fail
      go_ret
      have e : j = fs.length := by have := HN.out; omega
      have h2 := HA.out
      rw [e, List.take_length] at h2
      exact ⟨⟨-1, rfl, ⟨fun _ => h2, fun _ => by decide⟩⟩, HB.out⟩
set_option maxRecDepth 100000 in
theorem vcontains_any {w : World} {fs : List FnR} {A : Option Addr} {c : Nat} {Q : Nat} (hs : SortsIs w) (hq : w.heap[Q]? = some (.cells #[.slice A fs.length c] 24 (0, 0)))
    (hfs : FnsIs w (.slice A fs.length c) fs) (hkn : fs.length ≤ 1048576) (hl : ∀ f ∈ fs, f.l.length ≤ 1048576) :
    Calls Tryd.prog 27 #[.slice A fs.length c, .func (.func 24) #[] #[.pointer (some ⟨Q, 0, none⟩)]] w fun e w' => (∃ b, e = .returned (.bool b) ∧ (b = false ↔ ∀ f ∈ fs, goodF fs f)) ∧ Below w.heap.size w w' := by
  have C := Lib.hid (vidx_any hs hq hfs hkn hl)
  clear hs hq hfs hl
  obtain ⟨n, hn⟩ : ∃ n, n = fs.length := ⟨_, rfl⟩
  rw [← hn] at C ⊢
  clear hn hkn
  go_enter Tryd.func27, Tryd.ntmps27
  go_wp2_with fail
  refine C.out.mono ?_; rintro e w1 ⟨⟨z, rfl, hz⟩, hb1⟩
  have HZ := Lib.hid hz
  have HB := Lib.hid hb1
  clear hz hb1
  go_wp2_with fail
  go_ret
  exact ⟨⟨_, rfl, HZ.out⟩, HB.out⟩

open Classical in
noncomputable def codev (fs : List FnR) : Int := if CodeOk fs then 0 else 6
theorem codev_ok {fs : List FnR} (h : CodeOk fs) : codev fs = 0 := by unfold codev; rw [if_pos h]
theorem codev_no {fs : List FnR} (h : ¬ CodeOk fs) : codev fs = 6 := by unfold codev; rw [if_neg h]

set_option maxHeartbeats 2000000 in
set_option maxRecDepth 100000 in
theorem code_any {w : World} {fs : List FnR} {A : Option Addr} {c : Nat} (hs : SortsIs w) (hfs : FnsIs w (.slice A fs.length c) fs) (hkn : fs.length ≤ 1048576) (hl : ∀ f ∈ fs, f.l.length ≤ 1048576) :
    Calls Tryd.prog 13 #[.agg #[.slice A fs.length c]] w fun e w' => e = .returned (.int .i64 (codev fs)) ∧ Below w.heap.size w w' := by
  obtain ⟨w0, hw0⟩ : ∃ w0, w0 = w.alloc (.cells #[.slice A fs.length c] 24) := ⟨_, rfl⟩
  obtain ⟨Q, hQ⟩ : ∃ Q, Q = w.heap.size := ⟨_, rfl⟩
  have hb0 : Below w.heap.size w w0 := by rw [hw0]; exact (Below.refl _ _).alloc (Nat.le_refl _) _
  have hq0 : w0.heap[Q]? = some (.cells #[.slice A fs.length c] 24 (0, 0)) := by rw [hw0]; exact heap_new' hQ.symm
  have CC := Lib.hid (vcontains_any (hs.keep hb0) hq0 (hfs.keep hb0) hkn hl)
  have x0 := cell_of_block hq0 0
  simp at x0
  obtain ⟨z, hz⟩ : ∃ z, z = codev fs := ⟨_, rfl⟩
  rw [← hz]
  have HZ := Lib.hid hz
  have HB0 := Lib.hid hb0
  have HWE := Lib.hid (And.intro hw0 hQ)
  have HF0 := Lib.hid (hfs.keep hb0)
  obtain ⟨n, hn⟩ : ∃ n, n = fs.length := ⟨_, rfl⟩
  have CI := Lib.hid (in_any (fs.length : Int) 1 34 w0)
  rw [← hn] at CC CI HWE x0 hkn ⊢
  have HN := Lib.hid hn
  clear hs hfs hl hw0 hQ hb0 hq0 hz hn
  by_cases h1 : (1 : Int) ≤ (n : Int) ∧ (n : Int) < 34
  · rw [decide_eq_true h1] at CI
    obtain ⟨b, off, cap, A2, c2, e, hb, hcp, ⟨_, g1, _, _, _⟩, _⟩ := HF0.out.get 0 (by have := HN.out; omega)
    injection e with e1 e2 e3
    subst e1 e3
    simp only [Nat.zero_mul, Nat.add_zero] at g1
    obtain ⟨ps, hps⟩ : ∃ ps, ps = (fs[0]'(by have := HN.out; omega)).ps := ⟨_, rfl⟩
    rw [← hps] at g1
    rw [← HN.out] at hcp
    have hps2 : (fs.getD 0 noFn).ps = ps := by
      rw [hps, List.getD_eq_getElem?_getD, List.getElem?_eq_getElem (by have := HN.out; omega)]
      rfl
    have HPS := Lib.hid hps2
    have H1 := Lib.hid h1
    have h1n : 0 < n := by omega
    clear hps hps2 e2
    by_cases h2 : ps = 0
    · subst h2
      go_enter Tryd.func13, Tryd.ntmps13
      go_upto_region 2 with fail
      rw [← HWE.out.1, ← HWE.out.2]
      go_wp2_with fail
      refine CI.out.mono ?_; rintro e w1 ⟨rfl, rfl⟩
      go_wp2_with fail
      refine CC.out.mono ?_; rintro e w2 ⟨⟨bb, rfl, hbb⟩, hb2⟩
      have HB2 := Lib.hid (And.intro (bel_trans HB0.out hb2) hbb)
      clear hbb hb2
      cases bb with
      | true =>
        obtain rfl : z = 6 := by
          rw [HZ.out]
          exact codev_no (fun h => absurd (HB2.out.2.2 h.2.2) (by decide))
        go_wp2_with fail
        go_ret
        exact ⟨rfl, HB2.out.1⟩
      | false =>
        obtain rfl : z = 0 := by
          rw [HZ.out]
          exact codev_ok ⟨by have := H1.out; have := HN.out; omega, HPS.out, HB2.out.2.1 rfl⟩
        go_wp2_with fail
        go_ret
        exact ⟨rfl, HB2.out.1⟩
    · obtain rfl : z = 6 := by
        rw [HZ.out]
        exact codev_no (fun h => h2 (by rw [← HPS.out]; exact h.2.1))
      have t2 : (ps == 0) = false := by rw [beq_eq_false_iff_ne]; exact h2
      have t3 : (ps != 0) = true := by rw [bne, t2]; rfl
      go_enter Tryd.func13, Tryd.ntmps13
      go_upto_region 2 with fail
      rw [← HWE.out.1, ← HWE.out.2]
      go_wp2_with fail
      refine CI.out.mono ?_; rintro e w1 ⟨rfl, rfl⟩
      go_wp2_with fail
      go_ret
      exact ⟨rfl, HB0.out⟩
  · rw [decide_eq_false h1] at CI
    obtain rfl : z = 6 := by
      rw [HZ.out]
      exact codev_no (fun h => h1 (by have := h.1; have := HN.out; omega))
    clear h1
    go_enter Tryd.func13, Tryd.ntmps13
    go_upto_region 2 with fail
    rw [← HWE.out.1, ← HWE.out.2]
    go_wp2_with fail
    refine CI.out.mono ?_; rintro e w1 ⟨rfl, rfl⟩
    go_wp2_with fail
    go_ret
    exact ⟨rfl, HB0.out⟩
end Go.Proofs.YtdpimkbdieafgaaDoor
