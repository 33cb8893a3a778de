/- evenhandref16: Fold (out of XRef16d). -/
import Derived.Test.YtpjpndndpcebcaaDoorRef16c
namespace Go.Proofs.YtpjpndndpcebcaaDoor
set_option linter.unusedVariables false
set_option linter.unusedSimpArgs false
open Go.RowKit

set_option maxHeartbeats 4000000 in
set_option maxRecDepth 100000 in
theorem rfold_any {w : World} {v : Value} {l : List InsR} (hs : Src w v l.length (insCells l)) (hl : l.length ≤ 1048576) (hf : ∀ x ∈ l, Full x) :
    Calls Tryd.prog 11 #[v] w fun e w' => ∃ v', e = .returned v' ∧ Src w' v' (foldv l).length (insCells (foldv l)) ∧ Below w.heap.size w w' := by
  have HS := Lib.hid hs
  have HF := Lib.hid hf
  have HL := Lib.hid hl
  clear hs hf hl
  go_enter Tryd.func11, Tryd.ntmps11
  go_wp2_with fail
  go_loopg [0, 3] (l.length + 1) (fun k V M wr => ∃ (more : Bool) (cur : List InsR), k = (if more then cur.length + 1 else 0) ∧ M = .bool more ∧ Hid (Src wr V cur.length (insCells cur)) ∧ Hid (∀ x ∈ cur, Full x) ∧ Hid (cur.length ≤ 1048576) ∧ Hid (foldv cur = foldv l) ∧ Hid (more = false → firstRule cur = none) ∧ Hid (Below w.heap.size w wr))
  case atStart => exact ⟨true, l, by simp, rfl, HS, HF, HL, Lib.hid rfl, Lib.hid (fun h => by cases h), Lib.hid (Below.refl _ _)⟩
  case round =>
    obtain ⟨more, cur, hk, rfl, HC, HCF, HCL, HE, HM, HW⟩ := hrel
    cases more with
    | true =>
      have HK : Hid (gk = cur.length + 1) := Lib.hid (by simpa using hk)
      clear hk
      have C1 := Lib.hid (once_any HC.out HCL.out HCF.out)
      go_wp2_with fail
      refine C1.out.mono ?_; rintro e w1 (⟨l', h1, v', rfl, ho, hb⟩ | ⟨h1, rfl, hb⟩)
      · have hless := firstRule_less h1
        have HS1 : Hid (Src w1 v' l'.length (insCells l')) := Lib.hid (Src.of_row ho)
        have HF1 : Hid (∀ x ∈ l', Full x) := Lib.hid (by
          obtain ⟨i, _, hr, _⟩ := firstRule_some h1
          exact ruleV_full hr HCF.out)
        have HL1 : Hid (l'.length ≤ 1048576) := Lib.hid (by have := HCL.out; omega)
        have HE1 : Hid (foldv l' = foldv l) := Lib.hid (by rw [← foldv_some h1]; exact HE.out)
        have HW1 : Hid (Below w.heap.size w w1) := Lib.hid (bel_trans HW.out hb)
        have HLS := Lib.hid hless
        clear hless h1 ho hb
        go_wp2_with fail
        go_roundg (l'.length + 1)
        case measure => have := HK.out; have := HLS.out; omega
        case rel => exact ⟨true, l', by simp, rfl, HS1, HF1, HL1, HE1, Lib.hid (fun h => by cases h), HW1⟩
      · have HS1 := Lib.hid (HC.out.kept (Below.chg hb) (.inr fun _ _ x => x))
        have HW1 : Hid (Below w.heap.size w w1) := Lib.hid (bel_trans HW.out hb)
        have H1 := Lib.hid h1
        clear h1 hb
        go_wp2_with fail
        go_roundg 0
        case measure => have := HK.out; omega
        case rel => exact ⟨false, cur, by simp, rfl, HS1, HCF, HCL, HE, Lib.hid (fun _ => H1.out), HW1⟩
    | false =>
      clear hk
      have HR : Hid (foldv l = cur) := Lib.hid (by rw [← HE.out]; exact foldv_none (HM.out rfl))
      go_wp2_with fail
      go_ret
      rw [HR.out]
      exact ⟨_, rfl, HC.out, HW.out⟩

end Go.Proofs.YtpjpndndpcebcaaDoor
