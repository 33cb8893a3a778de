/- law19: shown. -/
import Derived.Test.YtgiegkacilfofabDoorTierS
import Derived.Test.YtgiegkacilfofabDoorTextG
import Derived.Test.YtgiegkacilfofabDoorLaidT
namespace Go.Proofs.YtgiegkacilfofabDoor
set_option linter.unusedVariables false
set_option linter.unusedSimpArgs false
open Go.RowKit Go.Conc

def sT0 : TS := ⟨[pairM, pairF], [[], [true]], [0, 2, 0, 9, 3], [], fun _ => none, []⟩
def sT1 : TS := (enterV 2 sT0 1 [5]).2
def sT2 : TS := (enterV 2 sT1 1 [5]).2
def sT3 : TS := (enterV 2 sT2 1 [6]).2
def sT4 : TS := (enterV 2 sT3 1 [5]).2
def sT5 : TS := (enterV 2 sT4 1 [5]).2
def sBody : List InsR := [⟨1, 0, 15⟩, ⟨18, 0, 0⟩]
set_option maxRecDepth 100000 in
theorem sh1 : (enterV 2 sT0 1 [5]).1 = ([], false, 0) := by kernel_rfl
set_option maxRecDepth 100000 in
theorem sh2 : (enterV 2 sT1 1 [5]).1 = (sBody, true, 8) := by kernel_rfl
set_option maxRecDepth 100000 in
theorem sh3 : (enterV 2 sT2 1 [6]).1 = ([], false, 50) := by kernel_rfl
set_option maxRecDepth 100000 in
theorem sh4 : (enterV 2 sT3 1 [5]).1 = (sBody, true, 0) := by kernel_rfl
set_option maxRecDepth 100000 in
theorem sh5 : (enterV 2 sT4 1 [5]).1 = ([], false, 0) := by kernel_rfl
set_option maxRecDepth 100000 in
theorem she : sT5.evs = [(1, 1), (2, 1), (3, 1), (2, 1), (4, 1)] := by kernel_rfl
set_option maxRecDepth 100000 in
theorem sht : (⟨(textL sBody 2).toArray⟩ : ByteArray) = ⟨#[48, 32, 112, 117, 115, 104, 32, 49, 53, 10, 49, 32, 114, 101, 116, 117, 114, 110, 10]⟩ := by kernel_rfl
theorem sBody_full : ∀ x ∈ sBody, Full x := fun x hx => by
  rcases List.mem_cons.1 hx with rfl | hx
  · constructor <;> (unfold In64; simp)
  · rw [List.mem_singleton.1 hx]
    constructor <;> (unfold In64; simp)
section
variable {w0 w : World} {tag : Nat → Nat} {m : Nat} {cap : Int} {np : Nat} {x : TAdr} {T : TS}
theorem TM.enter1 (h : TM w0 w tag m cap np x T) {w' : World} {v : Int} (hw : w' = w.alloc (.cells #[.int .i64 v] 2)) (fn : Int) {l : List InsR} {n : Nat} {bo : Bool} {ch : Int} (hr : (enterV cap T fn [v]).1 = (l, bo, ch)) (hn : l.length = n) (hnp : np + 20 < 1048576) :
    Calls Tryd.prog 9 #[.pointer (some ⟨m, 0, none⟩), .int .i64 fn, .slice (some ⟨w.heap.size, 0, none⟩) 1 1] w' fun e w2 => ∃ A c tag', e = .returned (.tuple #[.slice A n c, .bool bo, .int .i64 ch]) ∧
      w2.ownsRow 0 44 3 (.slice A n c) n (insCells l) ∧ (∀ k, (Value.slice A n c).ownBlock = some k → tag' k = 0) ∧ TM w0 w2 tag' m cap (np + 10) x (enterV cap T fn [v]).2 ∧ Ext w w2 tag tag' ∧ Chg (Own tag) w w2 := by
  have hc : Chg (fun _ => False) w w' := by rw [hw]; exact (Chg.refl _ _).alloc _
  refine ((h.kept hc).enter (num_one hw) fn hnp).mono ?_
  rintro e w2 ⟨VB, tag', rfl, h1, h2, h3, h4, h5⟩
  rw [hr] at h1 ⊢
  simp only at h1 ⊢
  rw [hn] at h1
  obtain ⟨_, A, c, rfl⟩ := ownsRow_slice h1
  exact ⟨A, c, tag', rfl, h1, fun k hk => (h2 k hk).2, h3, ⟨h4.old, fun k hk => (h4.new k hk).imp id (fun x => Nat.le_trans hc.size x)⟩, hc.trans h5 (fun _ _ x => x.elim) (fun _ _ x => x)⟩
/-- a row that is not the manager's is kept -/
theorem TM.row (h : TM w0 w tag m cap np x T) {w2 : World} {tag' : Nat → Nat} {V : Value} {n : Nat} {xs : List Value} {t : TypeId} {s : Nat} (hr : w.ownsRow 0 t s V n xs) (hf : ∀ k, V.ownBlock = some k → tag k = 0) (he : Ext w w2 tag tag') (hc : Chg (Own tag) w w2) :
    w2.ownsRow 0 t s V n xs ∧ ∀ k, V.ownBlock = some k → tag' k = 0 := by
  refine ⟨ownsRow_kept hr hc (fun k hk e => e (hf k hk)), fun k hk => ?_⟩
  have hl := ownsRow_lt hr k hk
  refine Classical.byContradiction (fun hn => ?_)
  rcases he.new k hn with e | e
  · exact e (hf k hk)
  · omega
end
set_option maxHeartbeats 8000000 in
set_option maxRecDepth 100000 in
theorem tshown_any {w : World} (hT : TxtIs w) :
    Calls Tryd.prog 6 #[] w fun e w' => e = .returned (.bool true) ∧ Below w.heap.size w w' := by
  go_enter Tryd.func6, Tryd.ntmps6
  have HT := Lib.hid hT
  clear hT
  go_wp2_with fail
  refine (pair_any w).mono ?_
  rintro e w1 ⟨b1, b2, b3, rfl, h1, h2, h3, _, hb⟩
  have HF := Lib.hid (pair_fns h1 h2 h3)
  have HB := Lib.hid hb
  clear h1 h2 h3 hb
  obtain ⟨w2, hw2⟩ : ∃ z, z = w1.alloc (.cells #[.bool true] 4) := ⟨_, rfl⟩
  obtain ⟨Q1, hQ1⟩ : ∃ z, z = w1.heap.size := ⟨_, rfl⟩
  have s2 : w2.heap.size = Q1 + 1 := by rw [hw2, hQ1]; simp
  obtain ⟨w3, hw3⟩ : ∃ z, z = w2.alloc (.cells #[.slice none 0 0, .slice (some ⟨Q1, 0, none⟩) 1 1] 30) := ⟨_, rfl⟩
  have s3 : w3.heap.size = Q1 + 1 + 1 := by rw [hw3]; simp [s2]
  obtain ⟨w4, hw4⟩ : ∃ z, z = w3.alloc (.cells #[.int .i64 0, .int .i64 2, .int .i64 0, .int .i64 9, .int .i64 3] 2) := ⟨_, rfl⟩
  have c2 : Chg (fun _ => False) w1 w2 := by rw [hw2]; exact (Chg.refl _ _).alloc _
  have c3 : Chg (fun _ => False) w2 w3 := by rw [hw3]; exact (Chg.refl _ _).alloc _
  have c4 : Chg (fun _ => False) w3 w4 := by rw [hw4]; exact (Chg.refl _ _).alloc _
  have e1 : w4.heap[Q1]? = some (.cells #[.bool true] 4 (0, 0)) := (c3.then c4).heap (by rw [hw2]; exact heap_new' hQ1.symm) (fun x => x)
  have e2 : w4.heap[Q1 + 1]? = some (.cells #[.slice none 0 0, .slice (some ⟨Q1, 0, none⟩) 1 1] 30 (0, 0)) := c4.heap (by rw [hw3]; exact heap_new' s2) (fun x => x)
  have e3 : w4.heap[Q1 + 1 + 1]? = some (.cells #[.int .i64 0, .int .i64 2, .int .i64 0, .int .i64 9, .int .i64 3] 2 (0, 0)) := by rw [hw4]; exact heap_new' s3
  have hp : PubIs w4 (.slice (some ⟨Q1 + 1, 0, none⟩) 2 2) [[], [true]] := ⟨_, 2, rfl, Nat.le_refl _, by simp [maxLen], fun _ => ⟨Q1 + 1, 0, rfl, fun j l hl => by
    match j, hl with
    | 0, hl =>
      have hl : [] = l := Option.some.inj hl
      subst hl
      exact ⟨_, cell_of_block e2 0, none, 0, rfl, Nat.le_refl _, by simp [maxLen], fun h => by simp at h⟩
    | 1, hl =>
      have hl : [true] = l := Option.some.inj hl
      subst hl
      refine ⟨_, cell_of_block e2 1, _, 1, rfl, Nat.le_refl _, by simp [maxLen], fun _ => ⟨Q1, 0, rfl, fun i y hy => ?_⟩⟩
      match i, hy with
      | 0, hy =>
        have hy : true = y := Option.some.inj hy
        subst hy
        exact cell_of_block e1 0⟩⟩
  have hk : NumSrc w4 (.slice (some ⟨Q1 + 1 + 1, 0, none⟩) 5 5) [0, 2, 0, 9, 3] := ⟨_, 5, rfl, Nat.le_refl _, by simp [maxLen], fun _ => ⟨Q1 + 1 + 1, 0, rfl, fun j y hy => by
    match j, hy with
    | 0, hy => have hy : (0 : Int) = y := Option.some.inj hy; subst hy; exact cell_of_block e3 0
    | 1, hy => have hy : (2 : Int) = y := Option.some.inj hy; subst hy; exact cell_of_block e3 1
    | 2, hy => have hy : (0 : Int) = y := Option.some.inj hy; subst hy; exact cell_of_block e3 2
    | 3, hy => have hy : (9 : Int) = y := Option.some.inj hy; subst hy; exact cell_of_block e3 3
    | 4, hy => have hy : (3 : Int) = y := Option.some.inj hy; subst hy; exact cell_of_block e3 4⟩⟩
  have CN := Lib.hid (tnew_any (fs := [pairM, pairF]) 2 (HF.out.keep (((c2.then c3).then c4).to_below)) hp hk (by omega) (by simp) (fun f hf => by
    rcases List.mem_cons.1 hf with rfl | hf
    · refine ⟨by decide, fun y hy => ?_⟩
      rcases List.mem_cons.1 hy with rfl | hy
      · constructor <;> (unfold In64; simp)
      · rw [List.mem_singleton.1 hy]
        constructor <;> (unfold In64; simp)
    · rw [List.mem_singleton.1 hf]
      refine ⟨by decide, fun y hy => ?_⟩
      have hy : y = ⟨2, 0, 0⟩ ∨ y = ⟨1, 0, 3⟩ ∨ y = ⟨8, 0, 0⟩ ∨ y = ⟨18, 0, 0⟩ := by simpa [pairF] using hy
      rcases hy with rfl | rfl | rfl | rfl <;> (constructor <;> (unfold In64; simp))) (by simp) (fun r hr => by
    have hr : r = [] ∨ r = [true] := by simpa using hr
    rcases hr with rfl | rfl <;> simp) (fun z hz => by
    have hz : z = 0 ∨ z = 2 ∨ z = 0 ∨ z = 9 ∨ z = 3 := by simpa using hz
    unfold In64
    omega))
  have HW := Lib.hid (And.intro hw2 (And.intro hw3 (And.intro hw4 hQ1)))
  have HB4 := Lib.hid (HB.out.trans (((c2.then c3).then c4).below (fun _ x => x.elim) HB.out.size))
  have HS := Lib.hid (And.intro s2 s3)
  clear hw2 hw3 hw4 hQ1 s2 s3 c2 c3 c4 e1 e2 e3 hp hk
  go_wp2_with fail
  rw [← HW.out.2.2.2, ← HW.out.1, ← HW.out.2.1, ← HW.out.2.2.1]
  refine CN.out.mono ?_
  rintro e u0 ⟨m, g0, x, rfl, htc, hlo, hb5⟩
  have hM : TM w u0 g0 m 2 0 x sT0 := ⟨htc, tinv_new _ _ _ _, fun k hk => Nat.le_trans HB4.out.size (hlo k hk), HB4.out.trans (hb5.mono HB4.out.size)⟩
  have HM := Lib.hid hM
  clear htc hlo hb5 hM CN
  obtain ⟨v1, hv1⟩ : ∃ z, z = u0.alloc (.cells #[.int .i64 5] 2) := ⟨_, rfl⟩
  have CE := Lib.hid (HM.out.enter1 hv1 1 sh1 rfl (by omega))
  have HV := Lib.hid hv1
  clear hv1
  go_wp2_with fail
  rw [← HV.out]
  refine CE.out.mono ?_
  rintro e u1 ⟨A1, c1, g1, rfl, hr1, hf1, hM, hE, hC⟩
  replace hM : TM w u1 g1 m 2 10 x sT1 := hM
  have HM := Lib.hid hM
  clear hM hE hC CE HV hr1 hf1
  obtain ⟨v2, hv2⟩ : ∃ z, z = u1.alloc (.cells #[.int .i64 5] 2) := ⟨_, rfl⟩
  have CE := Lib.hid (HM.out.enter1 hv2 1 (n := 2) sh2 rfl (by omega))
  have HV := Lib.hid hv2
  clear hv2
  go_wp2_with fail
  rw [← HV.out]
  refine CE.out.mono ?_
  rintro e u2 ⟨A2, c2, g2, rfl, hr2, hf2, hM, hE, hC⟩
  have HR2 := Lib.hid (And.intro hr2 hf2)
  replace hM : TM w u2 g2 m 2 20 x sT2 := hM
  have HM := Lib.hid hM
  clear hM hE hC CE HV hr2 hf2
  obtain ⟨v3, hv3⟩ : ∃ z, z = u2.alloc (.cells #[.int .i64 6] 2) := ⟨_, rfl⟩
  have CE := Lib.hid (HM.out.enter1 hv3 1 sh3 rfl (by omega))
  have HV := Lib.hid hv3
  clear hv3
  go_wp2_with fail
  rw [← HV.out]
  refine CE.out.mono ?_
  rintro e u3 ⟨A3, c3, g3, rfl, hr3, hf3, hM, hE, hC⟩
  obtain ⟨hr2, hf2⟩ := HM.out.row HR2.out.1 HR2.out.2 hE hC
  have HR2 := Lib.hid (And.intro hr2 hf2)
  replace hM : TM w u3 g3 m 2 30 x sT3 := hM
  have HM := Lib.hid hM
  clear hM hE hC CE HV hr3 hf3 hr2 hf2
  obtain ⟨v4, hv4⟩ : ∃ z, z = u3.alloc (.cells #[.int .i64 5] 2) := ⟨_, rfl⟩
  have CE := Lib.hid (HM.out.enter1 hv4 1 (n := 2) sh4 rfl (by omega))
  have HV := Lib.hid hv4
  clear hv4
  go_wp2_with fail
  rw [← HV.out]
  refine CE.out.mono ?_
  rintro e u4 ⟨A4, c4, g4, rfl, hr4, hf4, hM, hE, hC⟩
  obtain ⟨hr2, hf2⟩ := HM.out.row HR2.out.1 HR2.out.2 hE hC
  have HR2 := Lib.hid (And.intro hr2 hf2)
  replace hM : TM w u4 g4 m 2 40 x sT4 := hM
  have HM := Lib.hid hM
  clear hM hE hC CE HV hr4 hf4 hr2 hf2
  obtain ⟨v5, hv5⟩ : ∃ z, z = u4.alloc (.cells #[.int .i64 5] 2) := ⟨_, rfl⟩
  have CE := Lib.hid (HM.out.enter1 hv5 1 sh5 rfl (by omega))
  have HV := Lib.hid hv5
  clear hv5
  go_wp2_with fail
  rw [← HV.out]
  refine CE.out.mono ?_
  rintro e u5 ⟨A5, c5, g5, rfl, hr5, hf5, hM, hE, hC⟩
  obtain ⟨hr2, hf2⟩ := HM.out.row HR2.out.1 HR2.out.2 hE hC
  have HR2 := Lib.hid (And.intro hr2 hf2)
  replace hM : TM w u5 g5 m 2 50 x sT5 := hM
  have HM := Lib.hid hM
  clear hM hE hC CE HV hr5 hf5 hr2 hf2
  have CE := Lib.hid (HM.out.events (by omega))
  go_wp2_with fail
  refine CE.out.mono ?_
  rintro e u6 ⟨VE, rfl, hr, hf, hM, hC⟩
  have hr2 := ownsRow_kept HR2.out.1 hC (fun _ _ x => x)
  have hT6 := HT.out.keep hM.bel
  have CT := Lib.hid (text_any (l := sBody) hT6 (Src.of_row hr2) (by decide) sBody_full)
  obtain ⟨gE, cE, rfl, hgl, hcell⟩ := ownsRow_at hr (by rw [she]; decide)
  rw [she] at hcell
  have hlen : sT5.evs.length = 5 := by rw [she]; rfl
  rw [hlen]
  have HCE := Lib.hid hcell
  have HM6 := Lib.hid hM.bel
  clear hr hf hM hC hr2 hT6 hcell hlen CE
  go_wp2_with fail
  refine CT.out.mono ?_
  rintro e u7 ⟨rfl, hb7⟩
  have hbs : (⟨(textL sBody sBody.length).toArray⟩ : ByteArray) = ⟨#[48, 32, 112, 117, 115, 104, 32, 49, 53, 10, 49, 32, 114, 101, 116, 117, 114, 110, 10]⟩ := sht
  rw [hbs]
  have hk := fun i u (h : (evCells [(1, 1), (2, 1), (3, 1), (2, 1), (4, 1)])[i]? = some u) => (Below.chg hb7).cell (HCE.out i u h) (fun x => x)
  have d0 := hk 0 _ rfl
  have d1 := hk 1 _ rfl
  have d2 := hk 2 _ rfl
  have d4 := hk 4 _ rfl
  have d6 := hk 6 _ rfl
  have d8 := hk 8 _ rfl
  have HB7 := Lib.hid hb7
  clear hk hb7 hbs CT
  go_wp2_with fail
  go_ret
  exact ⟨rfl, HM6.out.trans (HB7.out.mono HM6.out.size)⟩
end Go.Proofs.YtgiegkacilfofabDoor
