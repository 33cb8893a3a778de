/- evenhandref16: Fold; FoldTells. -/
import Derived.Test.YtnecgfofefinaaaDoorRef16c
import Derived.Test.YtnecgfofefinaaaDoorFoldTwice
namespace Go.Proofs.YtnecgfofefinaaaDoor
set_option linter.unusedVariables false
set_option linter.unusedSimpArgs false
open Go.RowKit

set_option maxHeartbeats 4000000 in
set_option maxRecDepth 100000 in
theorem rfold_any {w : World} {v : Value} {l : List InsR} (hs : Src w v l.length (insCells l)) (hl : l.length ≤ 1048576) (hf : ∀ x ∈ l, Full x) :
    Calls Tryd.prog 11 #[v] w fun e w' => ∃ v', e = .returned v' ∧ Src w' v' (foldv l).length (insCells (foldv l)) ∧ Below w.heap.size w w' := by
  have HS := Lib.hid hs
  have HF := Lib.hid hf
  have HL := Lib.hid hl
  clear hs hf hl
  go_enter Tryd.func11, Tryd.ntmps11
  go_wp2_with fail
  go_loopg [0, 3] (l.length + 1) (fun k V M wr => ∃ (more : Bool) (cur : List InsR), k = (if more then cur.length + 1 else 0) ∧ M = .bool more ∧ Hid (Src wr V cur.length (insCells cur)) ∧ Hid (∀ x ∈ cur, Full x) ∧ Hid (cur.length ≤ 1048576) ∧ Hid (foldv cur = foldv l) ∧ Hid (more = false → firstRule cur = none) ∧ Hid (Below w.heap.size w wr))
  case atStart => exact ⟨true, l, by simp, rfl, HS, HF, HL, Lib.hid rfl, Lib.hid (fun h => by cases h), Lib.hid (Below.refl _ _)⟩
  case round =>
    obtain ⟨more, cur, hk, rfl, HC, HCF, HCL, HE, HM, HW⟩ := hrel
    cases more with
    | true =>
      have HK : Hid (gk = cur.length + 1) := Lib.hid (by simpa using hk)
      clear hk
      have C1 := Lib.hid (once_any HC.out HCL.out HCF.out)
      go_wp2_with fail
      refine C1.out.mono ?_; rintro e w1 (⟨l', h1, v', rfl, ho, hb⟩ | ⟨h1, rfl, hb⟩)
      · have hless := firstRule_less h1
        have HS1 : Hid (Src w1 v' l'.length (insCells l')) := Lib.hid (Src.of_row ho)
        have HF1 : Hid (∀ x ∈ l', Full x) := Lib.hid (by
          obtain ⟨i, _, hr, _⟩ := firstRule_some h1
          exact ruleV_full hr HCF.out)
        have HL1 : Hid (l'.length ≤ 1048576) := Lib.hid (by have := HCL.out; omega)
        have HE1 : Hid (foldv l' = foldv l) := Lib.hid (by rw [← foldv_some h1]; exact HE.out)
        have HW1 : Hid (Below w.heap.size w w1) := Lib.hid (bel_trans HW.out hb)
        have HLS := Lib.hid hless
        clear hless h1 ho hb
        go_wp2_with fail
        go_roundg (l'.length + 1)
        case measure => have := HK.out; have := HLS.out; omega
        case rel => exact ⟨true, l', by simp, rfl, HS1, HF1, HL1, HE1, Lib.hid (fun h => by cases h), HW1⟩
      · have HS1 := Lib.hid (HC.out.kept (Below.chg hb) (.inr fun _ _ x => x))
        have HW1 : Hid (Below w.heap.size w w1) := Lib.hid (bel_trans HW.out hb)
        have H1 := Lib.hid h1
        clear h1 hb
        go_wp2_with fail
        go_roundg 0
        case measure => have := HK.out; omega
        case rel => exact ⟨false, cur, by simp, rfl, HS1, HCF, HCL, HE, Lib.hid (fun _ => H1.out), HW1⟩
    | false =>
      clear hk
      have HR : Hid (foldv l = cur) := Lib.hid (by rw [← HE.out]; exact foldv_none (HM.out rfl))
      go_wp2_with fail
      go_ret
      rw [HR.out]
      exact ⟨_, rfl, HC.out, HW.out⟩

set_option maxHeartbeats 4000000 in
set_option maxRecDepth 100000 in
theorem foldTells_walk (W : World) (A : Option Addr) (c : Nat) (l : List InsR) (hL : SortsIs W) (hB : BodyAt W A c l) :
    Calls Tryd.prog 3 #[.slice A l.length c] W fun e w' => e = .returned (.bool true) ∧ Below W.heap.size W w' := by
  obtain ⟨n, hn⟩ : ∃ n, n = l.length := ⟨_, rfl⟩
  rw [← hn]
  have hnc : n ≤ c := by have := hB.fits; omega
  have hnb : n * 24 ≤ 140737488351232 := by have := hB.bytes; omega
  have HN := Lib.hid hn
  have HB := Lib.hid hB
  have CS := Lib.hid (shown_any hL)
  clear hn hB hL
  obtain ⟨m, hm⟩ : ∃ m : Nat, m = if n < 80 then n else 80 := ⟨_, rfl⟩
  have hmi : min (n : Int) 80 = (m : Int) := by rw [hm]; split <;> omega
  have hmn : m ≤ n := by rw [hm]; split <;> omega
  have hm80 : m ≤ 80 := by rw [hm]; split <;> omega
  clear hm
  obtain ⟨L, hLd⟩ : ∃ L, L = l.take m := ⟨_, rfl⟩
  have HLL : Hid (L.length = m) := Lib.hid (by rw [hLd, List.length_take]; have := HN.out; omega)
  have HFU : Hid (∀ x ∈ L, Full x) := Lib.hid (fun x hx => HB.out.full x (by rw [hLd] at hx; exact List.mem_of_mem_take hx))
  have HSRC : Hid (∀ w', Below W.heap.size W w' → Src w' (.slice A m c) L.length (insCells L)) := Lib.hid (fun w' hb => by
    have h := (HB.out.keep hb).take m (by have := HN.out; omega)
    rw [← hLd] at h
    exact h)
  have HPL : Hid ((foldv L).length ≤ 80) := Lib.hid (by have := foldv_le _ L rfl; have := HLL.out; omega)
  clear hLd
  go_enter Tryd.func3, Tryd.ntmps3
  go_wp2_with fail
  refine CS.out.mono ?_; rintro e w1 ⟨rfl, hb1⟩
  have HB1 := Lib.hid hb1
  clear hb1 CS
  have C1 := Lib.hid (fold_any (HSRC.out w1 HB1.out) (by rw [HLL.out]; omega) (fun x hx => (HFU.out x hx).wf))
  go_wp2_with fail
  refine C1.out.mono ?_; rintro e w2 ⟨v2, rfl, ho2, _, hb2⟩
  have HO2 := Lib.hid ho2
  have HB2 := Lib.hid (bel_trans HB1.out hb2)
  clear ho2 hb2 C1
  have C2 := Lib.hid (ref_any (HSRC.out w2 HB2.out) (by rw [HLL.out]; omega))
  go_wp2_with fail
  refine C2.out.mono ?_; rintro e w3 ⟨v3, rfl, ho3, _, hb3⟩
  have HO3 := Lib.hid ho3
  have HB3 := Lib.hid hb3
  clear ho3 hb3 C2
  have C3 := Lib.hid (rfold_any (Src.of_row HO3.out) (by rw [HLL.out]; omega) HFU.out)
  go_wp2_with fail
  refine C3.out.mono ?_; rintro e w4 ⟨v4, rfl, hs4, hb4⟩
  have HB4 := Lib.hid (bel_trans HB3.out hb4)
  have HS4 := Lib.hid hs4
  clear hs4 hb4 C3
  have C4 : Hid (Calls Tryd.prog 9 #[v2, v4] w4 fun e w' => e = .returned (.bool true) ∧ Below w4.heap.size w4 w') := Lib.hid (by
    have h := same_any (w := w4) (v1 := v2) (v2 := v4) (xs := foldv L) (ys := foldv L) (Src.of_row (ownsRow_kept HO2.out (Below.chg HB4.out) (fun _ _ x => x))) HS4.out (by have := HPL.out; omega) (by have := HPL.out; omega)
    rw [decide_eq_true rfl] at h
    exact h)
  go_wp2_with fail
  refine C4.out.mono ?_; rintro e w5 ⟨rfl, hb5⟩
  have HB5 := Lib.hid (bel_trans HB2.out (bel_trans HB4.out hb5))
  clear hb5
  go_wp2_with fail
  go_ret
  exact ⟨rfl, HB5.out⟩
end Go.Proofs.YtnecgfofefinaaaDoor
