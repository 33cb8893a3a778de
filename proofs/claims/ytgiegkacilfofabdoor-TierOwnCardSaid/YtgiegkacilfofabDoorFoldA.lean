/- fold: jumps, free's closure, slices.ContainsFunc over it, push. -/
import Derived.Test.YtgiegkacilfofabDoorKeep
import Derived.Test.YtgiegkacilfofabDoorOrdT
import Derived.Deep.CutBlock
namespace Go.Proofs.YtgiegkacilfofabDoor
set_option linter.unusedVariables false
set_option linter.unusedSimpArgs false
open Go.RowKit

def jumpsv (x : InsR) : Bool := decide (x.op = 15 ∨ x.op = 16)

set_option maxRecDepth 100000 in
theorem jumps_any (x : InsR) (w : World) : Calls Tryd.prog 78 #[x.agg] w fun e w' => e = .returned (.bool (jumpsv x)) ∧ Below w.heap.size w w' := by
  obtain ⟨op, a, n⟩ := x
  unfold InsR.agg jumpsv
  simp only
  have hb : Below w.heap.size w (w.alloc (.cells #[.int .i64 op, .int .i64 a, .int .i64 n] 44)) := (Below.refl _ _).alloc (Nat.le_refl _) _
  by_cases h1 : op = 15
  · subst h1
    go_enter Tryd.func78, Tryd.ntmps78
    go_wp2_with fail
    go_ret
    exact ⟨by simp, hb⟩
  · by_cases h2 : op = 16
    · subst h2
      go_enter Tryd.func78, Tryd.ntmps78
      go_wp2_with fail
      go_ret
      exact ⟨by simp, hb⟩
    · have HB := Lib.hid hb
      clear hb
      go_enter Tryd.func78, Tryd.ntmps78
      go_wp2_with fail
      go_ret
      exact ⟨by simp [h1, h2], HB.out⟩

set_option maxRecDepth 100000 in
theorem push_any (n : Int) (w : World) : Calls Tryd.prog 81 #[.int .i64 n] w fun e w' => e = .returned (.agg #[.int .i64 1, .int .i64 0, .int .i64 n]) ∧ Below w.heap.size w w' := by
  go_enter Tryd.func81, Tryd.ntmps81
  go_wp2_with fail
  exact bodyPost_ret (v := .agg #[.int .i64 1, .int .i64 0, .int .i64 n]) (by simp [results, Tryd.results81, go_sem]) rfl ⟨rfl, (Below.refl _ _).alloc (Nat.le_refl _) _⟩

/-- somebody goes on at a place -/
def hitv (k : Int) (x : InsR) : Bool := jumpsv x && decide (x.a = k)
set_option maxRecDepth 100000 in
theorem hit_any (x : InsR) (k : Int) (p : Nat) (w : World) (hp : w.cell? ⟨p, 0, none⟩ = some (.int .i64 k)) : Calls Tryd.prog 79 #[x.agg, .pointer (some ⟨p, 0, none⟩)] w fun e w' => e = .returned (.bool (hitv k x)) ∧ Below w.heap.size w w' := by
  have CJ := Lib.hid (fun w => jumps_any x w)
  obtain ⟨j, hj⟩ : ∃ j, jumpsv x = j := ⟨_, rfl⟩
  have hh : hitv k x = (j && decide (x.a = k)) := by unfold hitv; rw [hj]
  rw [hh]
  rw [hj] at CJ
  clear hj hh
  obtain ⟨op, a, n⟩ := x
  unfold InsR.agg at CJ ⊢
  simp only at CJ ⊢
  have HB : Hid (Below w.heap.size w (w.alloc (.cells #[.int .i64 op, .int .i64 a, .int .i64 n] 44))) := Lib.hid ((Below.refl _ _).alloc (Nat.le_refl _) _)
  have hpl : p < w.heap.size := World.block_lt_of_cell? _ _ hp
  obtain ⟨B, hB⟩ : ∃ B, B = w.heap.size := ⟨_, rfl⟩
  obtain ⟨wa, hwa⟩ : ∃ wa, wa = w.alloc (.cells #[.int .i64 op, .int .i64 a, .int .i64 n] 44) := ⟨_, rfl⟩
  have hx : wa.heap[B]? = some (.cells #[.int .i64 op, .int .i64 a, .int .i64 n] 44 (0, 0)) := by rw [hwa]; exact heap_new' hB.symm
  have hpa : wa.cell? ⟨p, 0, none⟩ = some (.int .i64 k) := by rw [hwa]; exact cell_alloc hp _
  rw [← hwa] at HB
  have c0 := cell_of_block hx 0
  have c1 := cell_of_block hx 1
  have c2 := cell_of_block hx 2
  simp at c0 c1 c2
  have HX := Lib.hid hx
  have HPA := Lib.hid hpa
  have HW := Lib.hid (And.intro hB hwa)
  clear hx hpa hB hwa hp hpl
  go_enter Tryd.func79, Tryd.ntmps79
  go_upto_region 1 with fail
  rw [← HW.out.1, ← HW.out.2]
  go_wp2_with fail
  refine (CJ.out _).mono ?_; rintro e w1 ⟨rfl, hb1⟩
  have hx1 := (Below.chg hb1).heap HX.out (fun x => x)
  have hp1 := (Below.chg hb1).cell HPA.out (fun x => x)
  have HB1 := Lib.hid (bel_trans HB.out hb1)
  clear c0 c1 c2 hb1
  have c1 := cell_of_block hx1 1
  simp at c1
  cases j with
  | false =>
    go_wp2_with fail
    go_ret
    exact ⟨rfl, HB1.out⟩
  | true =>
    by_cases h : a = k
    · subst h
      go_wp2_with fail
      go_ret
      exact ⟨by simp, HB1.out⟩
    · go_wp2_with fail
      go_ret
      exact ⟨by simp [h], HB1.out⟩


set_option maxHeartbeats 1000000 in
set_option maxRecDepth 100000 in
theorem idx_any {w : World} {v : Value} {l : List InsR} (k : Int) (p : Nat) (hs : Src w v l.length (insCells l)) (hm : l.length ≤ 8796093022208) (hp : w.cell? ⟨p, 0, none⟩ = some (.int .i64 k)) :
    Calls Tryd.prog 71 #[v, .func (.func 79) #[] #[.pointer (some ⟨p, 0, none⟩)]] w fun e w' => (∃ r : Int, e = .returned (.int .i64 r) ∧ decide (0 ≤ r) = l.any (hitv k)) ∧ Below w.heap.size w w' := by
  obtain ⟨n, hn⟩ : ∃ n, n = l.length := ⟨_, rfl⟩
  obtain ⟨_, A, c, rfl⟩ := hs.bound
  have HS := Lib.hid hs
  have HP := Lib.hid hp
  have HN := Lib.hid hn
  rw [← hn] at hm ⊢
  clear hs hp hn
  have hpl : p < w.heap.size := World.block_lt_of_cell? _ _ HP.out
  go_enter Tryd.func71, Tryd.ntmps71
  go_wp2_with fail
  go_loopg [8] n (fun kk i wr => ∃ j : Nat, j ≤ n ∧ kk = n - j ∧ i = .int .i64 j ∧ Hid ((l.take j).any (hitv k) = false) ∧ Hid (Below w.heap.size w wr))
  case atStart => exact ⟨0, by omega, rfl, rfl, Lib.hid rfl, Lib.hid (Below.refl _ _)⟩
  case round =>
    obtain ⟨j, hj, hk, rfl, HA, HB⟩ := hrel
    have HK := Lib.hid hk
    clear hk
    by_cases hlt : j < n
    · have hjl : j < l.length := by rw [← HN.out]; exact hlt
      have hsr := HS.out.kept (Below.chg HB.out) (.inr (fun _ _ x => x))
      obtain ⟨b, off, cap, e, hb, hcp, c0, c1, c2⟩ := hsr.get j hjl
      injection e with e1 e2 e3
      subst e1 e3
      have htk := List.take_succ_eq_append_getElem hjl
      obtain ⟨x, hx⟩ : ∃ x, l[j] = x := ⟨_, rfl⟩
      rw [hx] at c0 c1 c2 htk
      have hpr := (Below.chg HB.out).cell HP.out (fun x => x)
      have CH := Lib.hid (hit_any x k p wr hpr)
      obtain ⟨h, hh⟩ : ∃ h, hitv k x = h := ⟨_, rfl⟩
      rw [hh] at CH
      have HTK : Hid ((l.take (j + 1)).any (hitv k) = h) := Lib.hid (by rw [htk, List.any_append, HA.out]; simp [hh])
      obtain ⟨op, a, m⟩ := x
      unfold InsR.agg at CH
      simp only at CH c0 c1 c2
      rw [← HN.out] at hcp
      clear hx htk hsr hpr hh hjl e2
      go_wp2_with fail
      refine CH.out.mono ?_; rintro e w1 ⟨rfl, hb1⟩
      have HB1 := Lib.hid (bel_trans HB.out hb1)
      clear hb1 c0 c1 c2
      cases h with
      | true =>
        go_wp2_with fail
        go_ret
        refine ⟨⟨j, rfl, ?_⟩, HB1.out⟩
        have h2 : l.any (hitv k) = true := by
          have h1 := HTK.out
          rw [List.any_eq_true] at h1 ⊢
          obtain ⟨x, hx, h⟩ := h1
          exact ⟨x, List.mem_of_mem_take hx, h⟩
        rw [h2]
        simp
      | false =>
        go_wp2_with fail
        go_roundg (n - (j + 1))
        case measure => have := HK.out; omega
        case rel => exact ⟨j + 1, by omega, rfl, by go_num, HTK, HB1⟩
    · go_wp2_with fail
      go_ret
      have e : j = l.length := by have := HN.out; omega
      have h2 := HA.out
      rw [e, List.take_length] at h2
      exact ⟨⟨-1, rfl, by rw [h2]; decide⟩, HB.out⟩
set_option maxRecDepth 100000 in
theorem contains_any {w : World} {v : Value} {l : List InsR} (k : Int) (p : Nat) (hs : Src w v l.length (insCells l)) (hm : l.length ≤ 8796093022208) (hp : w.cell? ⟨p, 0, none⟩ = some (.int .i64 k)) :
    Calls Tryd.prog 61 #[v, .func (.func 79) #[] #[.pointer (some ⟨p, 0, none⟩)]] w fun e w' => e = .returned (.bool (l.any (hitv k))) ∧ Below w.heap.size w w' := by
  have C := Lib.hid (idx_any k p hs hm hp)
  obtain ⟨r, hr⟩ : ∃ r, l.any (hitv k) = r := ⟨_, rfl⟩
  rw [hr] at C ⊢
  clear hr hs hp
  go_enter Tryd.func61, Tryd.ntmps61
  go_wp2_with fail
  refine C.out.mono ?_; rintro e w1 ⟨⟨z, rfl, hz⟩, hb1⟩
  have HZ := Lib.hid hz
  have HB := Lib.hid hb1
  clear hz hb1
  go_wp2_with fail
  go_ret
  exact ⟨by rw [← HZ.out] <;> rfl, HB.out⟩
end Go.Proofs.YtgiegkacilfofabDoor
