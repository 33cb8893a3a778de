/- evenhandref16: target, replaced. -/
import Derived.Test.YtpjpndndpcebcaaDoorFoldRef
namespace Go.Proofs.YtpjpndndpcebcaaDoor
set_option linter.unusedVariables false
set_option linter.unusedSimpArgs false
open Go.RowKit

set_option maxHeartbeats 4000000 in
set_option maxRecDepth 100000 in
theorem target_any {w : World} {v : Value} {l : List InsR} (hs : Src w v l.length (insCells l)) (hm : l.length ≤ 1048576) (k : Int) :
    Calls Tryd.prog 26 #[v, .int .i64 k] w fun e w' => e = .returned (.bool (l.any (hitv k))) ∧ Below w.heap.size w w' := by
  obtain ⟨_, A, c, rfl⟩ := hs.bound
  have HS := Lib.hid hs
  clear hs
  obtain ⟨n, hn⟩ : ∃ n, n = l.length := ⟨_, rfl⟩
  rw [← hn] at hm ⊢
  have HN := Lib.hid hn
  clear hn
  obtain ⟨r, hr⟩ : ∃ r, r = l.any (hitv k) := ⟨_, rfl⟩
  rw [← hr]
  have HR := Lib.hid hr
  clear hr
  go_enter Tryd.func26, Tryd.ntmps26
  go_wp2_with fail
  go_loopg [5] n (fun kk i wr => ∃ j : Nat, j ≤ n ∧ kk = n - j ∧ i = .int .i64 j ∧ Hid ((l.take j).any (hitv k) = false) ∧ Hid (Below w.heap.size w wr))
  case atStart => exact ⟨0, by omega, rfl, rfl, Lib.hid (by simp), Lib.hid (Below.refl _ _)⟩
  case round =>
    obtain ⟨j, hj, hk, rfl, HT, HW⟩ := hrel
    have HK := Lib.hid hk
    clear hk
    by_cases hlt : j < n
    · obtain ⟨b, off, cap, hA, hbs, hcap, c0, c1, c2⟩ := HS.out.get j (by have := HN.out; omega)
      have hA : Value.slice A l.length c = .slice (some ⟨b, off, none⟩) l.length cap := hA
      injection hA with hA1 _ hA3
      subst hA1 hA3
      replace c0 := (Below.chg HW.out).cell c0 (fun x => x)
      replace c1 := (Below.chg HW.out).cell c1 (fun x => x)
      clear c2
      have HTK : Hid (l.take (j + 1) = l.take j ++ [l[j]'(by have := HN.out; omega)]) := Lib.hid (List.take_succ_eq_append_getElem (by have := HN.out; omega))
      have hmem : l[j]'(by have := HN.out; omega) ∈ l := List.getElem_mem _
      generalize l[j]'(by have := HN.out; omega) = x at *
      obtain ⟨op, a, nn⟩ := x
      simp only at c0 c1
      have HMEM := Lib.hid hmem
      clear hmem
      by_cases hh : (op = 15 ∨ op = 16) ∧ a = k
      · have hr1 : r = true := by
          rw [HR.out, List.any_eq_true]
          exact ⟨_, HMEM.out, by simp [hitv, jumpsv, hh.1, hh.2]⟩
        subst hr1
        have q3 : (a == k) = true := by rw [hh.2]; simp
        rcases hh.1 with rfl | rfl
        · clear hh
          go_wp2_with fail
          go_ret
          exact ⟨rfl, HW.out⟩
        · clear hh
          go_wp2_with fail
          go_ret
          exact ⟨rfl, HW.out⟩
      · have HT2 : Hid ((l.take (j + 1)).any (hitv k) = false) := Lib.hid (by
          rw [HTK.out, List.any_append, HT.out]
          simp only [List.any_cons, List.any_nil, Bool.or_false, Bool.false_or]
          simp only [hitv, jumpsv]
          rw [Bool.and_eq_false_iff]
          by_cases h1 : op = 15 ∨ op = 16
          · exact .inr (decide_eq_false (fun e => hh ⟨h1, e⟩))
          · exact .inl (decide_eq_false h1))
        by_cases h1 : op = 15
        · have q1 : (op == 15) = true := by rw [h1]; rfl
          have q3 : (a == k) = false := by rw [beq_eq_false_iff_ne]; exact fun e => hh ⟨.inl h1, e⟩
          clear hh h1
          go_wp2_with fail
          go_roundg (n - (j + 1))
          case measure => have := HK.out; omega
          case rel => exact ⟨j + 1, by omega, rfl, by go_num, HT2, HW⟩
        · by_cases h2 : op = 16
          · have q1 : (op == 15) = false := by rw [beq_eq_false_iff_ne]; exact h1
            have q2 : (op == 16) = true := by rw [h2]; rfl
            have q3 : (a == k) = false := by rw [beq_eq_false_iff_ne]; exact fun e => hh ⟨.inr h2, e⟩
            clear hh h1 h2
            go_wp2_with fail
            go_roundg (n - (j + 1))
            case measure => have := HK.out; omega
            case rel => exact ⟨j + 1, by omega, rfl, by go_num, HT2, HW⟩
          · have q1 : (op == 15) = false := by rw [beq_eq_false_iff_ne]; exact h1
            have q2 : (op == 16) = false := by rw [beq_eq_false_iff_ne]; exact h2
            clear hh h1 h2
            go_wp2_with fail
            go_roundg (n - (j + 1))
            case measure => have := HK.out; omega
            case rel => exact ⟨j + 1, by omega, rfl, by go_num, HT2, HW⟩
    · have hr0 : r = false := by
        have h := HT.out
        rw [show j = l.length by have := HN.out; omega, List.take_length] at h
        rw [HR.out, h]
      subst hr0
      go_wp2_with fail
      go_ret
      exact ⟨rfl, HW.out⟩
end Go.Proofs.YtpjpndndpcebcaaDoor
