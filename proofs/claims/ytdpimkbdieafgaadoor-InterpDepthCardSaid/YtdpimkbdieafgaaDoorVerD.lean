/- verify: right. -/
import Derived.Test.YtdpimkbdieafgaaDoorVerP
import Derived.RegionTactic
import Derived.ChangeAlike
namespace Go.Proofs.YtdpimkbdieafgaaDoor
set_option linter.unusedVariables false
set_option linter.unusedSimpArgs false
open Go.RowKit Go.Conc

theorem infoInt8 : (Tryd.prog.info? 3).map (·.bytes) = some 8 := by kernel_rfl
theorem mkChan (n : Nat) (hn : n ≤ 1048576) (w : World) : (Instr.makeChan 106 (.int .i64 (n : Int))).run Tryd.prog w = .ok (.chan (some w.heap.size)) (w.alloc (.chan n #[] false 0 0 false)) := by
  obtain ⟨i, hi, hb⟩ := Option.map_eq_some_iff.1 infoInt8
  simpa using run_makeChan (P := Tryd.prog) (w := w) Tryd.underlying106 hi .i64 n (by omega) (by rw [hb]; omega)
/-- what right asks of a function's head -/
def hdr (f : FnR) : Prop := (0 ≤ f.ps ∧ f.ps < 9) ∧ f.ps ≤ f.vs ∧ (0 ≤ f.vs ∧ f.vs < 65) ∧ (0 ≤ f.ar ∧ f.ar < 65)

theorem look_new1 {w : World} {k : Nat} {f : FnR} {A : Option Addr} {c : Nat} {B : Option Addr} {d : Nat} :
    LookIs (((w.alloc (.map #[] 0)).alloc (.chan f.l.length #[] false 0 0 false)).alloc (.cells #[.slice A k c, .string f.nm, .int .i64 f.ps, .int .i64 f.vs, .int .i64 f.ar, .slice B f.l.length d, .map (some w.heap.size), .chan (some (w.heap.size + 1))] 108)) (w.heap.size + 1 + 1) w.heap.size (w.heap.size + 1) k f A c B d [] 0 := by
  have h1 := VMap.made w
  have hc := ((Chg.refl (fun _ => False) (w.alloc (.map #[] 0))).alloc (.chan f.l.length #[] false 0 0 false)).alloc (.cells #[.slice A k c, .string f.nm, .int .i64 f.ps, .int .i64 f.vs, .int .i64 f.ar, .slice B f.l.length d, .map (some w.heap.size), .chan (some (w.heap.size + 1))] 108)
  refine ⟨?_, h1.kept hc (fun x => x), ?_, by simp, by simp, Nat.le_refl _⟩
  · unfold LookBox; exact heap_new' (by simp)
  · exact ((Chg.refl (fun _ => False) _).alloc _).heap (heap_new' (by simp)) (fun x => x)
theorem look_new2 {w : World} {k : Nat} {f : FnR} {A : Option Addr} {c : Nat} {B : Option Addr} {d : Nat} :
    LookIs (((w.alloc (.chan f.l.length #[] false 0 0 false)).alloc (.map #[] 0)).alloc (.cells #[.slice A k c, .string f.nm, .int .i64 f.ps, .int .i64 f.vs, .int .i64 f.ar, .slice B f.l.length d, .map (some (w.heap.size + 1)), .chan (some w.heap.size)] 108)) (w.heap.size + 1 + 1) (w.heap.size + 1) w.heap.size k f A c B d [] 0 := by
  have h1 := VMap.made (w.alloc (.chan f.l.length #[] false 0 0 false))
  rw [show (w.alloc (.chan f.l.length #[] false 0 0 false)).heap.size = w.heap.size + 1 by simp] at h1
  refine ⟨?_, h1.kept ((Chg.refl (fun _ => False) _).alloc _) (fun x => x), ?_, by simp, by simp, Nat.le_refl _⟩
  · unfold LookBox; exact heap_new' (by simp)
  · exact (((Chg.refl (fun _ => False) _).alloc _).alloc _).heap (heap_new' rfl) (fun x => x)

def RightP (w : World) (fs : List FnR) (f : FnR) (e : Ending) (w' : World) : Prop := ∃ b, e = .returned (.bool b) ∧ Below w.heap.size w w' ∧ (b = true → hdr f ∧ STy fs f) ∧ (b = false → ¬ (hdr f ∧ ∃ D, WTy fs f D))
set_option maxHeartbeats 4000000 in
set_option maxRecDepth 100000 in
theorem right_any {w : World} {fs : List FnR} {f : FnR} {A : Option Addr} {c : Nat} {B : Option Addr} {d : Nat} (hs : SortsIs w)
    (hfs : FnsIs w (.slice A fs.length c) fs) (hkn : fs.length ≤ 1048576) (hsrc : Src w (.slice B f.l.length d) f.l.length (insCells f.l)) (hl : f.l.length ≤ 1048576) :
    Calls Tryd.prog 25 #[.slice A fs.length c, .agg #[.string f.nm, .int .i64 f.ps, .int .i64 f.vs, .int .i64 f.ar, .slice B f.l.length d]] w fun e w' => RightP w fs f e w' := by
  obtain ⟨w0, hw0⟩ : ∃ w0, w0 = w.alloc (.cells #[.string f.nm, .int .i64 f.ps, .int .i64 f.vs, .int .i64 f.ar, .slice B f.l.length d] 46) := ⟨_, rfl⟩
  obtain ⟨P0, hP0⟩ : ∃ P0, P0 = w.heap.size := ⟨_, rfl⟩
  have hb0 : Below w.heap.size w w0 := by rw [hw0]; exact (Below.refl _ _).alloc (Nat.le_refl _) _
  have hp0 : w0.heap[P0]? = some (.cells #[.string f.nm, .int .i64 f.ps, .int .i64 f.vs, .int .i64 f.ar, .slice B f.l.length d] 46 (0, 0)) := by rw [hw0]; exact heap_new' hP0.symm
  have HB0 := Lib.hid hb0
  have HP0 := Lib.hid hp0
  have HWE := Lib.hid (And.intro hw0 hP0)
  have HS0 := Lib.hid (hs.keep hb0)
  have HF0 := Lib.hid (hfs.keep hb0)
  have HR0 := Lib.hid (hsrc.keepB hb0)
  have CI := Lib.hid (fun (n a b : Int) (w : World) => in_any n a b w)
  clear hs hfs hsrc hw0 hP0 hb0
  obtain ⟨k, hk⟩ : ∃ k, k = fs.length := ⟨_, rfl⟩
  obtain ⟨n, hn⟩ : ∃ n, n = f.l.length := ⟨_, rfl⟩
  obtain ⟨nm, hnm⟩ : ∃ nm, nm = f.nm := ⟨_, rfl⟩
  obtain ⟨ps, hps⟩ : ∃ ps, ps = f.ps := ⟨_, rfl⟩
  obtain ⟨vs, hvs⟩ : ∃ vs, vs = f.vs := ⟨_, rfl⟩
  obtain ⟨ar, har⟩ : ∃ ar, ar = f.ar := ⟨_, rfl⟩
  rw [← hnm, ← hps, ← hvs, ← har, ← hn] at hp0 HP0 HWE
  rw [← hk, ← hnm, ← hps, ← hvs, ← har, ← hn]
  rw [← hk] at hkn
  rw [← hn] at hl
  have HE := Lib.hid (And.intro hk (And.intro hn (And.intro hnm (And.intro hps (And.intro hvs har)))))
  clear hk hn hnm hps hvs har
  have x0 := cell_of_block hp0 0
  have x1 := cell_of_block hp0 1
  have x2 := cell_of_block hp0 2
  have x3 := cell_of_block hp0 3
  have x4 := cell_of_block hp0 4
  simp at x0 x1 x2 x3 x4
  clear hp0
  by_cases h1 : 0 ≤ ps ∧ ps < 9
  · by_cases h2 : ps ≤ vs
    · by_cases h3 : 0 ≤ vs ∧ vs < 65
      · by_cases h4 : 0 ≤ ar ∧ ar < 65
        · have C1 := Lib.hid (fun w => in_any ps 0 9 w)
          have C2 := Lib.hid (fun w => in_any vs 0 65 w)
          have C3 := Lib.hid (fun w => in_any ar 0 65 w)
          rw [decide_eq_true h1] at C1
          rw [decide_eq_true h3] at C2
          rw [decide_eq_true h4] at C3
          have t2 : decide (vs < ps) = false := decide_eq_false (by omega)
          have HH : Hid ((0 ≤ ps ∧ ps < 9) ∧ ps ≤ vs ∧ (0 ≤ vs ∧ vs < 65) ∧ (0 ≤ ar ∧ ar < 65)) := Lib.hid ⟨h1, h2, h3, h4⟩
          clear h1 h3 h4
          refine calls_of_wpn Tryd.func25 rfl ?_
          simp only [Tryd.ntmps25, List.size_toArray, List.length_cons, List.length_nil, Nat.reduceAdd, Nat.reduceSub, Array.replicate_succ, Array.replicate_zero, List.push_toArray, List.append_toArray, List.nil_append, List.cons_append]
          refine wpn_seq_k (fun K hK => ?_)
          go_wp2_with fail
          rw [← HWE.out.1, ← HWE.out.2]
          try clear hK
          try clear K
          refine wpn_seq_k (fun K hK => ?_)
          go_wp2_with fail
          refine (C1.out _).mono ?_; rintro e w1 ⟨rfl, rfl⟩
          go_wp2_with fail
          refine (C2.out _).mono ?_; rintro e w1 ⟨rfl, rfl⟩
          go_wp2_with fail
          refine (C3.out _).mono ?_; rintro e w1 ⟨rfl, rfl⟩
          go_wp2_with fail
          try clear hK
          try clear K
          refine wpn_seq_k (fun K hK => ?_)
          have HM := Lib.hid (fun w => mkChan n hl w)
          go_cut [5] from 30 to 38 (fun v wx => ∃ X mb cb, v = .pointer (some ⟨X, 0, none⟩) ∧ LookIs wx X mb cb k f A c B d [] 0 ∧ (w1.heap.size ≤ mb ∧ w1.heap.size ≤ cb) ∧ Below w1.heap.size w1 wx)
          case first J K' hJ hK' =>
            have hm := HM.out
            have a0 := fun o => cell_alloc x0 o
            have b0 := fun o o' => cell_alloc (cell_alloc x0 o) o'
            have a1 := fun o => cell_alloc x1 o
            have b1 := fun o o' => cell_alloc (cell_alloc x1 o) o'
            have a2 := fun o => cell_alloc x2 o
            have b2 := fun o o' => cell_alloc (cell_alloc x2 o) o'
            have a3 := fun o => cell_alloc x3 o
            have b3 := fun o o' => cell_alloc (cell_alloc x3 o) o'
            have a4 := fun o => cell_alloc x4 o
            have b4 := fun o o' => cell_alloc (cell_alloc x4 o) o'
            have hmm := fun w => run_makeMap (P := Tryd.prog) 105 w
            go_region
            · refine hK' _ _ (Met.intro (hJ _ _ ?_))
              (repeat apply Exists.intro)
              refine ⟨?rel, rfl⟩
              case rel =>
                have h := look_new1 (w := w1) (k := k) (f := f) (A := A) (c := c) (B := B) (d := d)
                rw [← HE.out.2.1, ← HE.out.2.2.1, ← HE.out.2.2.2.1, ← HE.out.2.2.2.2.1, ← HE.out.2.2.2.2.2] at h
                have hb := ((((Chg.refl (fun _ => False) w1).alloc (.map #[] 0)).alloc (.chan n #[] false 0 0 false)).alloc (.cells #[.slice A k c, .string nm, .int .i64 ps, .int .i64 vs, .int .i64 ar, .slice B n d, .map (some w1.heap.size), .chan (some (w1.heap.size + 1))] 108)).drew
                exact ⟨_, _, _, rfl, h.heap rfl, ⟨by omega, by omega⟩, hb.below (fun k h => h.elim) (Nat.le_refl _)⟩
            · refine hK' _ _ (Met.intro (hJ _ _ ?_))
              (repeat apply Exists.intro)
              refine ⟨?rel, rfl⟩
              case rel =>
                have h := look_new2 (w := w1) (k := k) (f := f) (A := A) (c := c) (B := B) (d := d)
                rw [← HE.out.2.1, ← HE.out.2.2.1, ← HE.out.2.2.2.1, ← HE.out.2.2.2.2.1, ← HE.out.2.2.2.2.2] at h
                have hb := ((((Chg.refl (fun _ => False) w1).alloc (.chan n #[] false 0 0 false)).alloc (.map #[] 0)).alloc (.cells #[.slice A k c, .string nm, .int .i64 ps, .int .i64 vs, .int .i64 ar, .slice B n d, .map (some (w1.heap.size + 1)), .chan (some w1.heap.size)] 108)).drew
                exact ⟨_, _, _, rfl, h.heap rfl, ⟨by omega, by omega⟩, hb.below (fun k h => h.elim) (Nat.le_refl _)⟩
          obtain ⟨X, mb, cb, rfl, hl5, hmc, hb5⟩ := hcut
          refine hK _ _ ?_
          have HB5 := Lib.hid hb5
          have HL5 := Lib.hid hl5
          have CR := Lib.hid (reaches_any hl5 (by rw [← HE.out.2.1]; exact hl) 0 0)
          rw [← HE.out.2.1] at CR
          try clear hK
          try clear K
          clear hl5 hb5 x0 x1 x2 x3 x4
          rcases hrv : reachv n [] 0 0 with ⟨b5, V5⟩
          rw [hrv] at CR
          simp only at CR
          refine wpn_seq_k (fun K hK => ?_)
          go_wp2_with fail
          refine CR.out.mono ?_; rintro e w6 ⟨rfl, hl6, hc6⟩
          have HMC := Lib.hid hmc
          have HB6 : Hid (Below w1.heap.size w1 w6) := Lib.hid (HB5.out.trans (hc6.below (B := w1.heap.size) (fun x hx => by rcases hx with rfl | rfl; exact hmc.1; exact hmc.2) HB5.out.size))
          have HL6 := Lib.hid hl6
          have HRV := Lib.hid hrv
          have HHD : Hid (hdr f) := Lib.hid (by
            have h := HE.out
            have := HH.out
            unfold hdr
            rw [← h.2.2.2.1, ← h.2.2.2.2.1, ← h.2.2.2.2.2]
            exact this)
          have HBW : Hid (∀ w', Below w1.heap.size w1 w' → Below w.heap.size w w') := Lib.hid (fun w' h => bel_trans HB0.out h)
          clear hl6 hc6 hrv hmc CR HL5 HB5
          cases b5 with
          | false =>
            go_wp2_with fail
            go_ret
            refine ⟨false, rfl, HBW.out _ HB6.out, (fun h => by cases h), fun _ h => ?_⟩
            obtain ⟨_, D, hD⟩ := h
            exact start_false (by rw [← HE.out.2.1, HRV.out]) D hD
          | true =>
            have HIN : Hid (Inv fs f V5 0) := Lib.hid (by
              have h := Inv.start (fs := fs) (f := f) (by rw [← HE.out.2.1, HRV.out])
              rwa [← HE.out.2.1, HRV.out] at h)
            go_wp2_with fail
            try clear hK
            try clear K
            refine wpn_block ?_
            obtain ⟨I, hI⟩ : ∃ I : Nat → Act → World → Prop, I = (fun m a w' => ∃ (V : List (Int × Int)) (r : Nat) (u6 u42 u43 u44 u45 u46 u47 u48 u49 u50 u51 u52 u53 : Value), a = ⟨#[.slice A k c, .agg #[.string nm, .int .i64 ps, .int .i64 vs, .int .i64 ar, .slice B n d], undef, .pointer (some ⟨P0, 0, none⟩), .bool false, .pointer (some ⟨X, 0, none⟩), u6, .pointer (some ⟨P0, 1, none⟩), .int .i64 ps, .bool true, .bool false, .bool false, .pointer (some ⟨P0, 1, none⟩), .int .i64 ps, .pointer (some ⟨P0, 2, none⟩), .int .i64 vs, .bool false, .bool false, .bool false, .pointer (some ⟨P0, 2, none⟩), .int .i64 vs, .bool true, .bool false, .bool false, .bool false, .pointer (some ⟨P0, 3, none⟩), .int .i64 ar, .bool true, .bool false, .bool false, u30, u31, u32, u33, u34, u35, u36, u37, u38, .pointer (some ⟨X, 0, none⟩), .bool true, .bool false, u42, u43, u44, u45, u46, u47, u48, u49, u50, u51, u52, u53], []⟩ ∧ m = n - r ∧ LookIs w' X mb cb k f A c B d V r ∧ Inv fs f V r ∧ Below w1.heap.size w1 w') := ⟨_, rfl⟩
            have HI := Lib.hid hI
            refine wpn_loop I n (by rw [hI]; exact ⟨V5, 0, _, _, _, _, _, _, _, _, _, _, _, _, _, rfl, by omega, HL6.out, HIN.out, HB6.out⟩) ?_
            intro m a wr hIn
            rw [hI] at hIn
            clear hI
            obtain ⟨V, r, u6, u42, u43, u44, u45, u46, u47, u48, u49, u50, u51, u52, u53, rfl, hm, hlr, hin, hbr⟩ := hIn
            have HLR := Lib.hid hlr
            have HIR := Lib.hid hin
            have HBR := Lib.hid hbr
            have HMM := Lib.hid hm
            have hx := hlr.box
            unfold LookBox at hx
            have x7 := cell_of_block hx 7
            simp at x7
            clear hm hlr hin hbr hx HL6 HIN HB6 HRV
            refine wpn_block ?_
            refine wpn_seq_k (fun K hK => ?_)
            go_wp2_with fail
            try clear hK
            try clear K
            refine wpn_seq ?_
            refine wpn_region ?_
            show opsn _ _ _ [0, 1, 2] _ _
            by_cases hr : r < V.length
            · rcases hxr : V[r] with ⟨p, dp⟩
              have hmem : (p, dp) ∈ V := by rw [← hxr]; exact List.getElem_mem _
              have hget : V[r]? = some (p, dp) := by rw [List.getElem?_eq_getElem hr, hxr]
              have hrg := HIR.out.range _ hmem
              have hsf := HIR.out.self _ hmem
              simp only at hrg hsf
              obtain ⟨q, rfl⟩ : ∃ q : Nat, p = (q : Int) := ⟨p.toNat, by omega⟩
              have hq : q < n := by have := HE.out.2.1; omega
              have hch : chanv V r = (chanv V r) := rfl
              have hsz : 0 < (chanv V r).size := by unfold chanv; simp; omega
              have hg0 : (chanv V r).getD 0 undef = .int .i64 (q : Int) := by
                have h1 : (chanv V r)[0]? = some (.int .i64 (q : Int)) := by
                  unfold chanv
                  rw [List.getElem?_toArray, List.getElem?_map, List.getElem?_drop, Nat.add_zero, hget]
                  rfl
                rw [Array.getD_eq_getD_getElem?, h1]
                rfl
              have hex : (chanv V r).extract 1 (chanv V r).size = chanv V (r + 1) := by
                unfold chanv
                simp
                exact List.take_of_length_le (by simp; omega)
              refine opsn_sel_buf rfl rfl (w₁ := wr) (c := cb) (z := .int .i64 0) (by simp [go_sem, execOp, rcase, Act.eval]) HLR.out.chan hsz ?_
              rw [hg0, hex]
              obtain ⟨w7, hw7⟩ : ∃ w7, w7 = wr.setChan cb f.l.length (chanv V (r + 1)) false V.length (r + 1) false := ⟨_, rfl⟩
              rw [← hw7]
              have hc7 : Chg (fun x => x = cb) wr w7 := by rw [hw7]; exact (Chg.refl (fun x => x = cb) wr).setChan (ch := cb) rfl _ _ _ _ _ _
              obtain ⟨ne1, ne2, ne3⟩ := HLR.out.ne
              have HL7 : Hid (LookIs w7 X mb cb k f A c B d V (r + 1)) := Lib.hid ⟨hc7.heap HLR.out.box (fun e => ne2 e), HLR.out.map.kept hc7 (fun e => ne3 e), by rw [hw7]; exact heap_setChan _ _ _ _ _ _ _ _ (lt_of_heap HLR.out.chan), HLR.out.nodup, HLR.out.range, by omega⟩
              have HB7 : Hid (Below w1.heap.size w1 w7) := Lib.hid (HBR.out.trans (hc7.below (B := w1.heap.size) (fun x hx => by rw [hx]; exact HMC.out.2) HBR.out.size))
              have hins : insAt f (q : Int) = f.l[q]'(by have := HE.out.2.1; omega) := by
                unfold insAt
                rw [show ((q : Int)).toNat = q by omega, List.getD_eq_getElem?_getD, List.getElem?_eq_getElem (by have := HE.out.2.1; omega)]
                rfl
              have C7 : Hid (Calls Tryd.prog 40 #[.pointer (some ⟨X, 0, none⟩), .int .i64 q] w7 fun e w' => e = .returned (.bool (placev fs f V (insAt f q) q dp).1) ∧ LookIs w' X mb cb k f A c B d (placev fs f V (insAt f q) q dp).2 (r + 1) ∧ Chg (fun x => x = mb ∨ x = cb) w7 w') := Lib.hid (by
                have h7 := HL7.out
                rw [HE.out.1] at h7
                have h := place_any h7 (HS0.out.keep HB7.out) (HF0.out.keep HB7.out) (by rw [← HE.out.1]; exact hkn) (HR0.out.keepB HB7.out) (by rw [← HE.out.2.1]; exact hl) q (by rw [← HE.out.2.1]; exact hq) dp hsf
                rw [← hins] at h
                rw [← HE.out.1] at h
                exact h)
              have HGET := Lib.hid hget
              clear hw7 hc7 ne1 ne2 ne3 hex hg0 hsz hch hsf hrg hmem hxr hget hins
              simp only [Act.put, List.setIfInBounds_toArray, List.set_cons_succ, List.set_cons_zero]
              iterate 2 (refine opsn_look rfl rfl (by go_simp; with_reducible rfl) ?_; simp only [Act.put, List.setIfInBounds_toArray, List.set_cons_succ, List.set_cons_zero])
              refine opsn_end ?_
              refine wpn_of_wp ?_
              clear x7
              rcases hpv : placev fs f V (insAt f q) q dp with ⟨bp, Vp⟩
              rw [hpv] at C7
              simp only at C7
              have HPV := Lib.hid hpv
              clear hpv
              go_wp2_with fail
              refine C7.out.mono ?_; rintro e w8 ⟨rfl, hl8, hc8⟩
              have HL8 := Lib.hid hl8
              have HB8 : Hid (Below w1.heap.size w1 w8) := Lib.hid (HB7.out.trans (hc8.below (B := w1.heap.size) (fun x hx => by rcases hx with rfl | rfl; exact HMC.out.1; exact HMC.out.2) HB7.out.size))
              clear hl8 hc8 C7
              cases bp with
              | false =>
                go_wp2_with fail
                go_ret
                refine ⟨false, rfl, HBW.out _ HB8.out, (fun h => by cases h), fun _ h => ?_⟩
                obtain ⟨_, D, hD⟩ := h
                exact step_false HIR.out HGET.out (by simp only; rw [HPV.out]) D hD
              | true =>
                have HI8 : Hid (Inv fs f Vp (r + 1)) := Lib.hid (by
                  have h := HIR.out.step HGET.out (by simp only; rw [HPV.out])
                  simp only at h
                  rwa [HPV.out] at h)
                have HLT : Hid (n - (r + 1) < m) := Lib.hid (by
                  have h1 := HLR.out.count
                  have h2 := HMM.out
                  have h3 := HE.out.2.1
                  omega)
                go_wp2_with fail
                refine ⟨n - (r + 1), HLT.out, ?_⟩
                rw [HI.out]
                exact ⟨Vp, r + 1, _, _, _, _, _, _, _, _, _, _, _, _, _, rfl, rfl, HL8.out, HI8.out, HB8.out⟩
            · have hrl : r = V.length := by have := HIR.out.le; omega
              subst hrl
              have hem : chanv V V.length = #[] := by unfold chanv; rw [List.drop_length]; rfl
              refine opsn_sel_none rfl rfl (w₁ := wr) (c := cb) (z := .int .i64 0) (by simp [go_sem, execOp, rcase, Act.eval]) (by have h := HLR.out.chan; rw [hem] at h; exact h) ?_
              simp only [Act.put, List.setIfInBounds_toArray, List.set_cons_succ, List.set_cons_zero]
              iterate 2 (refine opsn_look rfl rfl (by go_simp; with_reducible rfl) ?_; simp only [Act.put, List.setIfInBounds_toArray, List.set_cons_succ, List.set_cons_zero])
              refine opsn_end ?_
              refine wpn_of_wp ?_
              clear x7 hem
              go_wp2_with fail
              go_ret
              exact ⟨true, rfl, HBW.out _ HBR.out, fun _ => ⟨HHD.out, HIR.out.all⟩, fun h => by cases h⟩
        · have HNH : Hid (¬ hdr f) := Lib.hid (fun h => by
            have e := HE.out
            unfold hdr at h
            rw [← e.2.2.2.1, ← e.2.2.2.2.1, ← e.2.2.2.2.2] at h
            exact h4 h.2.2.2)
          have C1 := Lib.hid (fun w => in_any ps 0 9 w)
          rw [decide_eq_true h1] at C1
          have C2 := Lib.hid (fun w => in_any vs 0 65 w)
          rw [decide_eq_true h3] at C2
          have C3 := Lib.hid (fun w => in_any ar 0 65 w)
          rw [decide_eq_false h4] at C3
          clear h4
          have t2 : decide (vs < ps) = false := decide_eq_false (by omega)
          clear h1 h3
          go_enter Tryd.func25, Tryd.ntmps25
          go_upto_region 1 with fail
          rw [← HWE.out.1, ← HWE.out.2]
          go_wp2_with fail
          refine (C1.out _).mono ?_; rintro e w1 ⟨rfl, rfl⟩
          go_wp2_with fail
          refine (C2.out _).mono ?_; rintro e w1 ⟨rfl, rfl⟩
          go_wp2_with fail
          refine (C3.out _).mono ?_; rintro e w1 ⟨rfl, rfl⟩
          go_wp2_with fail
          go_ret
          exact ⟨false, rfl, HB0.out, (fun h => by cases h), fun _ h => HNH.out h.1⟩
      · have HNH : Hid (¬ hdr f) := Lib.hid (fun h => by
          have e := HE.out
          unfold hdr at h
          rw [← e.2.2.2.1, ← e.2.2.2.2.1, ← e.2.2.2.2.2] at h
          exact h3 h.2.2.1)
        have C1 := Lib.hid (fun w => in_any ps 0 9 w)
        rw [decide_eq_true h1] at C1
        have C2 := Lib.hid (fun w => in_any vs 0 65 w)
        rw [decide_eq_false h3] at C2
        have t2 : decide (vs < ps) = false := decide_eq_false (by omega)
        clear h1 h3
        go_enter Tryd.func25, Tryd.ntmps25
        go_upto_region 1 with fail
        rw [← HWE.out.1, ← HWE.out.2]
        go_wp2_with fail
        refine (C1.out _).mono ?_; rintro e w1 ⟨rfl, rfl⟩
        go_wp2_with fail
        refine (C2.out _).mono ?_; rintro e w1 ⟨rfl, rfl⟩
        go_wp2_with fail
        go_ret
        exact ⟨false, rfl, HB0.out, (fun h => by cases h), fun _ h => HNH.out h.1⟩
    · have HNH : Hid (¬ hdr f) := Lib.hid (fun h => by
        have e := HE.out
        unfold hdr at h
        rw [← e.2.2.2.1, ← e.2.2.2.2.1, ← e.2.2.2.2.2] at h
        exact h2 h.2.1)
      have C1 := Lib.hid (fun w => in_any ps 0 9 w)
      rw [decide_eq_true h1] at C1
      have t2 : decide (vs < ps) = true := decide_eq_true (by omega)
      clear h1
      go_enter Tryd.func25, Tryd.ntmps25
      go_upto_region 1 with fail
      rw [← HWE.out.1, ← HWE.out.2]
      go_wp2_with fail
      refine (C1.out _).mono ?_; rintro e w1 ⟨rfl, rfl⟩
      go_wp2_with fail
      go_ret
      exact ⟨false, rfl, HB0.out, (fun h => by cases h), fun _ h => HNH.out h.1⟩
  · have HNH : Hid (¬ hdr f) := Lib.hid (fun h => by
      have e := HE.out
      unfold hdr at h
      rw [← e.2.2.2.1, ← e.2.2.2.2.1, ← e.2.2.2.2.2] at h
      exact h1 h.1)
    have C1 := Lib.hid (fun w => in_any ps 0 9 w)
    rw [decide_eq_false h1] at C1
    clear h1
    go_enter Tryd.func25, Tryd.ntmps25
    go_upto_region 1 with fail
    rw [← HWE.out.1, ← HWE.out.2]
    go_wp2_with fail
    refine (C1.out _).mono ?_; rintro e w1 ⟨rfl, rfl⟩
    go_wp2_with fail
    go_ret
    exact ⟨false, rfl, HB0.out, (fun h => by cases h), fun _ h => HNH.out h.1⟩
end Go.Proofs.YtdpimkbdieafgaaDoor
