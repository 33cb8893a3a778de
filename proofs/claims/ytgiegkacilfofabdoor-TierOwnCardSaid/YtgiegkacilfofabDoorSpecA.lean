/- spec: sets, and who is asked for it. -/
import Derived.Test.YtgiegkacilfofabDoorFoldFold
namespace Go.Proofs.YtgiegkacilfofabDoor
set_option linter.unusedVariables false
set_option linter.unusedSimpArgs false
open Go.RowKit

/-- an instruction sets a variable -/
def setsv (k : Int) (x : InsR) : Bool := decide (x.op = 3 ∨ x.op = 21) && decide (x.a = k)
set_option maxHeartbeats 1000000 in
set_option maxRecDepth 100000 in
theorem sets_any (x : InsR) (k : Int) (w : World) : Calls Tryd.prog 63 #[x.agg, .int .i64 k] w fun e w' => e = .returned (.bool (setsv k x)) ∧ Below w.heap.size w w' := by
  obtain ⟨op, a, n⟩ := x
  unfold InsR.agg setsv
  simp only
  have HB : Hid (Below w.heap.size w (w.alloc (.cells #[.int .i64 op, .int .i64 a, .int .i64 n] 44))) := Lib.hid ((Below.refl _ _).alloc (Nat.le_refl _) _)
  by_cases h3 : op = 3
  · subst h3
    by_cases ha : a = k
    · subst ha
      go_enter Tryd.func63, Tryd.ntmps63
      go_wp2_with fail
      go_ret
      exact ⟨by simp, HB.out⟩
    · have q1 : (a == k) = false := by rw [beq_eq_false_iff_ne]; exact ha
      go_enter Tryd.func63, Tryd.ntmps63
      go_wp2_with fail
      go_ret
      exact ⟨by simp [ha], HB.out⟩
  · have q0 : (op == 3) = false := by rw [beq_eq_false_iff_ne]; exact h3
    by_cases h21 : op = 21
    · subst h21
      by_cases ha : a = k
      · subst ha
        go_enter Tryd.func63, Tryd.ntmps63
        go_wp2_with fail
        go_ret
        exact ⟨by simp, HB.out⟩
      · have q1 : (a == k) = false := by rw [beq_eq_false_iff_ne]; exact ha
        go_enter Tryd.func63, Tryd.ntmps63
        go_wp2_with fail
        go_ret
        exact ⟨by simp [ha], HB.out⟩
    · have q1 : (op == 21) = false := by rw [beq_eq_false_iff_ne]; exact h21
      go_enter Tryd.func63, Tryd.ntmps63
      go_wp2_with fail
      go_ret
      exact ⟨by simp [h3, h21], HB.out⟩
set_option maxHeartbeats 1000000 in
set_option maxRecDepth 100000 in
theorem sethit_any (x : InsR) (k : Int) (p : Nat) (w : World) (hp : w.cell? ⟨p, 0, none⟩ = some (.int .i64 k)) : Calls Tryd.prog 62 #[x.agg, .pointer (some ⟨p, 0, none⟩)] w fun e w' => e = .returned (.bool (setsv k x)) ∧ Below w.heap.size w w' := by
  have CJ := Lib.hid (fun w => sets_any x k w)
  obtain ⟨j, hj⟩ : ∃ j, setsv k x = j := ⟨_, rfl⟩
  rw [hj] at CJ ⊢
  clear hj
  obtain ⟨op, a, n⟩ := x
  unfold InsR.agg at CJ ⊢
  simp only at CJ ⊢
  have HB : Hid (Below w.heap.size w (w.alloc (.cells #[.int .i64 op, .int .i64 a, .int .i64 n] 44))) := Lib.hid ((Below.refl _ _).alloc (Nat.le_refl _) _)
  have hpl : p < w.heap.size := World.block_lt_of_cell? _ _ hp
  have hpa : (w.alloc (.cells #[.int .i64 op, .int .i64 a, .int .i64 n] 44)).cell? ⟨p, 0, none⟩ = some (.int .i64 k) := cell_alloc hp _
  go_enter Tryd.func62, Tryd.ntmps62
  go_wp2_with fail
  refine (CJ.out _).mono ?_; rintro e w1 ⟨rfl, hb1⟩
  have HB1 := Lib.hid (bel_trans HB.out hb1)
  clear hb1 hpa hp
  go_wp2_with fail
  go_ret
  exact ⟨rfl, HB1.out⟩

set_option maxHeartbeats 1000000 in
set_option maxRecDepth 100000 in
theorem sidx_any {w : World} {v : Value} {l : List InsR} (k : Int) (p : Nat) (hs : Src w v l.length (insCells l)) (hm : l.length ≤ 8796093022208) (hp : w.cell? ⟨p, 0, none⟩ = some (.int .i64 k)) :
    Calls Tryd.prog 71 #[v, .func (.func 62) #[] #[.pointer (some ⟨p, 0, none⟩)]] w fun e w' => (∃ r : Int, e = .returned (.int .i64 r) ∧ decide (0 ≤ r) = l.any (setsv k)) ∧ Below w.heap.size w w' := by
  obtain ⟨n, hn⟩ : ∃ n, n = l.length := ⟨_, rfl⟩
  obtain ⟨_, A, c, rfl⟩ := hs.bound
  have HS := Lib.hid hs
  have HP := Lib.hid hp
  have HN := Lib.hid hn
  rw [← hn] at hm ⊢
  clear hs hp hn
  have hpl : p < w.heap.size := World.block_lt_of_cell? _ _ HP.out
  go_enter Tryd.func71, Tryd.ntmps71
  go_wp2_with fail
  go_loopg [8] n (fun kk i wr => ∃ j : Nat, j ≤ n ∧ kk = n - j ∧ i = .int .i64 j ∧ Hid ((l.take j).any (setsv k) = false) ∧ Hid (Below w.heap.size w wr))
  case atStart => exact ⟨0, by omega, rfl, rfl, Lib.hid rfl, Lib.hid (Below.refl _ _)⟩
  case round =>
    obtain ⟨j, hj, hk, rfl, HA, HB⟩ := hrel
    have HK := Lib.hid hk
    clear hk
    by_cases hlt : j < n
    · have hjl : j < l.length := by rw [← HN.out]; exact hlt
      have hsr := HS.out.kept (Below.chg HB.out) (.inr (fun _ _ x => x))
      obtain ⟨b, off, cap, e, hb, hcp, c0, c1, c2⟩ := hsr.get j hjl
      injection e with e1 e2 e3
      subst e1 e3
      have htk := List.take_succ_eq_append_getElem hjl
      obtain ⟨x, hx⟩ : ∃ x, l[j] = x := ⟨_, rfl⟩
      rw [hx] at c0 c1 c2 htk
      have hpr := (Below.chg HB.out).cell HP.out (fun x => x)
      have CH := Lib.hid (sethit_any x k p wr hpr)
      obtain ⟨h, hh⟩ : ∃ h, setsv k x = h := ⟨_, rfl⟩
      rw [hh] at CH
      have HTK : Hid ((l.take (j + 1)).any (setsv k) = h) := Lib.hid (by rw [htk, List.any_append, HA.out]; simp [hh])
      obtain ⟨op, a, m⟩ := x
      unfold InsR.agg at CH
      simp only at CH c0 c1 c2
      rw [← HN.out] at hcp
      clear hx htk hsr hpr hh hjl e2
      go_wp2_with fail
      refine CH.out.mono ?_; rintro e w1 ⟨rfl, hb1⟩
      have HB1 := Lib.hid (bel_trans HB.out hb1)
      clear hb1 c0 c1 c2
      cases h with
      | true =>
        go_wp2_with fail
        go_ret
        refine ⟨⟨j, rfl, ?_⟩, HB1.out⟩
        have h2 : l.any (setsv k) = true := by
          have h1 := HTK.out
          rw [List.any_eq_true] at h1 ⊢
          obtain ⟨x, hx, h⟩ := h1
          exact ⟨x, List.mem_of_mem_take hx, h⟩
        rw [h2]
        simp
      | false =>
        go_wp2_with fail
        go_roundg (n - (j + 1))
        case measure => have := HK.out; omega
        case rel => exact ⟨j + 1, by omega, rfl, by go_num, HTK, HB1⟩
    · go_wp2_with fail
      go_ret
      have e : j = l.length := by have := HN.out; omega
      have h2 := HA.out
      rw [e, List.take_length] at h2
      exact ⟨⟨-1, rfl, by rw [h2]; decide⟩, HB.out⟩
set_option maxRecDepth 100000 in
theorem scontains_any {w : World} {v : Value} {l : List InsR} (k : Int) (p : Nat) (hs : Src w v l.length (insCells l)) (hm : l.length ≤ 8796093022208) (hp : w.cell? ⟨p, 0, none⟩ = some (.int .i64 k)) :
    Calls Tryd.prog 61 #[v, .func (.func 62) #[] #[.pointer (some ⟨p, 0, none⟩)]] w fun e w' => e = .returned (.bool (l.any (setsv k))) ∧ Below w.heap.size w w' := by
  have C := Lib.hid (sidx_any k p hs hm hp)
  obtain ⟨r, hr⟩ : ∃ r, l.any (setsv k) = r := ⟨_, rfl⟩
  rw [hr] at C ⊢
  clear hr hs hp
  go_enter Tryd.func61, Tryd.ntmps61
  go_wp2_with fail
  refine C.out.mono ?_; rintro e w1 ⟨⟨z, rfl, hz⟩, hb1⟩
  have HZ := Lib.hid hz
  have HB := Lib.hid hb1
  clear hz hb1
  go_wp2_with fail
  go_ret
  exact ⟨by rw [← HZ.out] <;> rfl, HB.out⟩
end Go.Proofs.YtgiegkacilfofabDoor
