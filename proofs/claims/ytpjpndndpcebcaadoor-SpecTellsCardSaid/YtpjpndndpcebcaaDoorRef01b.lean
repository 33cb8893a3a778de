/- evenhandref01: Times, parted. -/
import Derived.Test.YtpjpndndpcebcaaDoorRef01
namespace Go.Proofs.YtpjpndndpcebcaaDoor
set_option linter.unusedVariables false
set_option linter.unusedSimpArgs false
open Go.RowKit

theorem and_one (x : Nat) (hx : x < M64) : bits .and .u64 (x : Int) 1 = ((x % 2 : Nat) : Int) := by
  have h := bits_and_u64_nat x 1 hx (by omega)
  have e : x &&& 1 = x % 2 := Nat.and_two_pow_sub_one_eq_mod x 1
  rw [e] at h
  exact h
theorem shr_nat (x j : Nat) : (x : Int) / 2 ^ j = ((x / 2 ^ j : Nat) : Int) := by
  rw [Int.natCast_ediv]
  norm_cast
theorem shl_nat (x j : Nat) : IntKind.u64.wrap ((x : Int) * 2 ^ j) = ((x * 2 ^ j % M64 : Nat) : Int) := by
  rw [IntKind.wrap_u64]
  have e : (x : Int) * 2 ^ j = ((x * 2 ^ j : Nat) : Int) := by rw [Int.natCast_mul]; norm_cast
  rw [e]
  exact (Int.natCast_emod (x * 2 ^ j) M64).symm
theorem or_bit (x t : Nat) (hx : x < M64) (he : x % 2 = 0) (ht : t < 2) : bits .or .u64 (x : Int) (t : Int) = ((x + t : Nat) : Int) := by
  rw [bits_or_u64_nat x t hx (by omega)]
  congr 1
  have h := Nat.two_pow_add_eq_or_of_lt (i := 1) (b := t) ht (x / 2)
  rw [show 2 ^ 1 * (x / 2) = x by omega] at h
  exact h.symm

/-- a bit more of a product -/
theorem times_step (a b j : Nat) : (a * (b % 2 ^ (j + 1))) % M64 = (if b / 2 ^ j % 2 = 1 then (a * (b % 2 ^ j) % M64 + a * 2 ^ j % M64) % M64 else a * (b % 2 ^ j) % M64) := by
  have h : b % 2 ^ (j + 1) = b % 2 ^ j + 2 ^ j * (b / 2 ^ j % 2) := Nat.mod_pow_succ
  rw [h]
  rcases Nat.mod_two_eq_zero_or_one (b / 2 ^ j) with e | e
  · rw [e, if_neg (by omega), Nat.mul_zero, Nat.add_zero]
  · rw [e, if_pos rfl, Nat.mul_one, Nat.mul_add, Nat.add_mod]

set_option maxHeartbeats 1000000 in
set_option maxRecDepth 100000 in
theorem times_any (a b : Nat) (ha : a < M64) (hb : b < M64) (w : World) : Calls Tryd.prog 41 #[.int .u64 a, .int .u64 b] w fun e w' => e = .returned (.int .u64 ((a * b % M64 : Nat) : Int)) ∧ w' = w := by
  obtain ⟨r, hr⟩ : ∃ r, r = a * b % M64 := ⟨_, rfl⟩
  rw [← hr]
  have HRR := Lib.hid hr
  clear hr
  go_enter Tryd.func41, Tryd.ntmps41
  go_wp2_with fail
  go_loopg [5, 6] 64 (fun k n i wr => ∃ j N : Nat, j ≤ 64 ∧ k = 64 - j ∧ i = .int .i64 j ∧ n = .int .u64 N ∧ N < M64 ∧ Hid (N = a * (b % 2 ^ j) % M64) ∧ wr = w)
  case atStart => exact ⟨0, 0, by omega, rfl, rfl, rfl, by unfold M64; omega, Lib.hid (by simp [Nat.mod_one]), rfl⟩
  case round =>
    obtain ⟨j, N, hj, hk, rfl, rfl, hN, HI, hw⟩ := hrel
    subst hw
    have HK := Lib.hid hk
    clear hk
    by_cases hlt : (j : Int) < 64
    · obtain ⟨t, ht⟩ : ∃ t, t = b / 2 ^ j % 2 := ⟨_, rfl⟩
      obtain ⟨S, hS⟩ : ∃ S, S = a * 2 ^ j % M64 := ⟨_, rfl⟩
      have e1 : bits .and .u64 ((b : Int) / 2 ^ j) 1 = (t : Int) := by rw [shr_nat, ht]; exact and_one _ (Nat.lt_of_le_of_lt (Nat.div_le_self _ _) hb)
      have e2 : IntKind.u64.wrap ((a : Int) * 2 ^ j) = (S : Int) := by rw [hS]; exact shl_nat a j
      have hSl : S < M64 := by rw [hS]; exact Nat.mod_lt _ (by unfold M64; omega)
      have hst := times_step a b j
      rw [← ht, ← hS, ← HI.out] at hst
      have HS := Lib.hid hst
      clear hst hS
      by_cases ht1 : t = 1
      · have t1 : ((t : Int) == 1) = true := by rw [ht1]; rfl
        obtain ⟨R, hR⟩ : ∃ R, R = (N + S) % M64 := ⟨_, rfl⟩
        have C1 : Hid (Calls Tryd.prog 40 #[.int .u64 N, .int .u64 S] wr fun e w' => e = .returned (.int .u64 R) ∧ w' = wr) := Lib.hid (by rw [hR]; exact plus_any N S hN hSl wr)
        have HR : Hid (R = a * (b % 2 ^ (j + 1)) % M64) := Lib.hid (by rw [HS.out, if_pos ht1, hR])
        have hRl : R < M64 := by rw [hR]; exact Nat.mod_lt _ (by unfold M64; omega)
        clear ht ht1 hR
        go_wp2_with fail
        refine C1.out.mono ?_; rintro e w1 ⟨rfl, hw⟩
        rw [hw]
        clear hw
        go_wp2_with fail
        go_roundg (64 - (j + 1))
        case measure => have := HK.out; omega
        case rel => exact ⟨j + 1, R, by omega, rfl, by go_num, rfl, hRl, HR, rfl⟩
      · have t1 : ((t : Int) == 1) = false := by rw [beq_eq_false_iff_ne]; omega
        have HR : Hid (N = a * (b % 2 ^ (j + 1)) % M64) := Lib.hid (by rw [HS.out, if_neg ht1])
        clear ht ht1
        go_wp2_with fail
        go_roundg (64 - (j + 1))
        case measure => have := HK.out; omega
        case rel => exact ⟨j + 1, N, by omega, rfl, by go_num, rfl, hN, HR, rfl⟩
    · obtain rfl : j = 64 := by omega
      have HR : Hid (N = r) := Lib.hid (by rw [HRR.out, HI.out, show b % 2 ^ 64 = b from Nat.mod_eq_of_lt hb])
      go_wp2_with fail
      go_ret
      rw [← HR.out]
      exact ⟨rfl, rfl⟩

/-- a bit more of a quotient -/
theorem part_step {A b N L t : Nat} (hb : 0 < b) (hN : N = A / b) (hL : L = A % b) (ht : t < 2) :
    (b ≤ 2 * L + t → (2 * A + t) / b = 2 * N + 1 ∧ (2 * A + t) % b = 2 * L + t - b) ∧ (¬ b ≤ 2 * L + t → (2 * A + t) / b = 2 * N ∧ (2 * A + t) % b = 2 * L + t) := by
  have h1 : b * N + L = A := by rw [hN, hL]; exact Nat.div_add_mod A b
  have h2 : L < b := by rw [hL]; exact Nat.mod_lt _ hb
  constructor
  · intro h
    refine (Nat.div_mod_unique hb).2 ⟨?_, by omega⟩
    rw [Nat.mul_add, Nat.mul_one, Nat.mul_left_comm]
    omega
  · intro h
    refine (Nat.div_mod_unique hb).2 ⟨?_, by omega⟩
    rw [Nat.mul_left_comm]
    omega

set_option maxHeartbeats 1000000 in
set_option maxRecDepth 100000 in
theorem parted_any (a b : Nat) (ha : a < M64) (hb : b < M64) (hb0 : 0 < b) (w : World) : Calls Tryd.prog 43 #[.int .u64 a, .int .u64 b] w fun e w' => e = .returned (.tuple #[.int .u64 ((a / b : Nat) : Int), .int .u64 ((a % b : Nat) : Int)]) ∧ w' = w := by
  go_enter Tryd.func43, Tryd.ntmps43
  go_wp2_with fail
  go_loopg [6, 7, 8] 64 (fun k n l i wr => ∃ j N L : Nat, j ≤ 64 ∧ k = j ∧ i = .int .i64 ((j : Int) - 1) ∧ n = .int .u64 N ∧ l = .int .u64 L ∧ N < M64 ∧ L < b ∧ Hid (N = a / 2 ^ j / b ∧ L = a / 2 ^ j % b) ∧ wr = w)
  case atStart => exact ⟨64, 0, 0, by omega, rfl, rfl, rfl, rfl, by unfold M64; omega, hb0, Lib.hid ⟨by rw [Nat.div_eq_of_lt (show a < 2 ^ 64 from ha)]; simp, by rw [Nat.div_eq_of_lt (show a < 2 ^ 64 from ha)]; simp⟩, rfl⟩
  case round =>
    obtain ⟨j, N, L, hj, hk, rfl, rfl, rfl, hN, hLb, HI, hw⟩ := hrel
    subst hw
    have HK := Lib.hid hk
    clear hk
    cases j with
    | succ p =>
      have ep : (((p + 1 : Nat) : Int) - 1) = (p : Int) := by omega
      rw [ep]
      clear ep
      obtain ⟨t, ht⟩ : ∃ t, t = a / 2 ^ p % 2 := ⟨_, rfl⟩
      have ht2 : t < 2 := by rw [ht]; omega
      obtain ⟨D, hD⟩ : ∃ D, D = L * 2 % M64 := ⟨_, rfl⟩
      have hDl : D < M64 := by rw [hD]; exact Nat.mod_lt _ (by unfold M64; omega)
      have hDe : D % 2 = 0 := by rw [hD]; unfold M64; omega
      obtain ⟨E, hE⟩ : ∃ E, E = D + t := ⟨_, rfl⟩
      have hEl : E < M64 := by rw [hE]; unfold M64 at *; omega
      obtain ⟨A, hA⟩ : ∃ A, A = a / 2 ^ (p + 1) := ⟨_, rfl⟩
      have hAt : a / 2 ^ p = 2 * A + t := by rw [hA, ht, Nat.pow_succ, ← Nat.div_div_eq_div_mul]; omega
      have hap : a / 2 ^ p < M64 := Nat.lt_of_le_of_lt (Nat.div_le_self _ _) ha
      have hNA : N ≤ A := by rw [HI.out.1, ← hA]; exact Nat.div_le_self _ _
      have hF : N * 2 % M64 = 2 * N := by rw [Nat.mod_eq_of_lt (by omega)]; omega
      have e1 : bits .and .u64 ((a : Int) / 2 ^ p) 1 = (t : Int) := by rw [shr_nat, ht]; exact and_one _ hap
      have e2 : IntKind.u64.wrap ((L : Int) * 2) = (D : Int) := by rw [hD]; exact shl_nat L 1
      have e3 : bits .or .u64 (D : Int) (t : Int) = (E : Int) := by rw [hE]; exact or_bit D t hDl hDe ht2
      obtain ⟨F, hFd⟩ : ∃ F, F = 2 * N := ⟨_, rfl⟩
      have hFl : F < M64 := by omega
      have e4 : IntKind.u64.wrap ((N : Int) * 2) = (F : Int) := by rw [hFd, ← hF]; exact shl_nat N 1
      obtain ⟨G, hG⟩ : ∃ G, G = F + 1 := ⟨_, rfl⟩
      have hGl : G < M64 := by unfold M64 at *; omega
      have e5 : bits .or .u64 (F : Int) 1 = (G : Int) := by rw [hG]; exact or_bit F 1 hFl (by omega) (by omega)
      obtain ⟨R, hR⟩ : ∃ R, R = (E + (M64 - b)) % M64 := ⟨_, rfl⟩
      have e6 : IntKind.u64.wrap ((E : Int) - (b : Int)) = (R : Int) := by rw [hR, IntKind.wrap_u64]; unfold M64 at *; omega
      have HST := Lib.hid (part_step (t := t) hb0 HI.out.1 HI.out.2 ht2)
      rw [← hA, ← hAt] at HST
      have hLM : L < M64 := by omega
      by_cases hhi : L / 9223372036854775808 = 1
      · have q1 : ((L : Int) / 9223372036854775808 == 1) = true := by rw [beq_iff_eq]; omega
        have hge : b ≤ 2 * L + t := by unfold M64 at *; omega
        have HN : Hid (G = a / 2 ^ p / b ∧ R = a / 2 ^ p % b) := Lib.hid (by
          obtain ⟨x1, x2⟩ := HST.out.1 hge
          refine ⟨by rw [x1, hG, hFd], by rw [x2, hR, hE, hD]; unfold M64 at *; omega⟩)
        have hRb : R < b := by rw [HN.out.2]; exact Nat.mod_lt _ hb0
        clear hhi hge ht hD hE hA hAt hFd hG hR hF hNA HST
        go_wp2_with fail
        go_roundg p
        case measure => have := HK.out; omega
        case rel => exact ⟨p, G, R, by omega, rfl, rfl, rfl, rfl, hGl, hRb, HN, rfl⟩
      · have q1 : ((L : Int) / 9223372036854775808 == 1) = false := by rw [beq_eq_false_iff_ne]; omega
        have hEX : E = 2 * L + t := by rw [hE, hD]; unfold M64 at *; omega
        by_cases hge : b ≤ E
        · have q2 : (b : Int) ≤ (E : Int) := by omega
          have HN : Hid (G = a / 2 ^ p / b ∧ R = a / 2 ^ p % b) := Lib.hid (by
            obtain ⟨x1, x2⟩ := HST.out.1 (by omega)
            refine ⟨by rw [x1, hG, hFd], by rw [x2, hR, ← hEX]; unfold M64 at *; omega⟩)
          have hRb : R < b := by rw [HN.out.2]; exact Nat.mod_lt _ hb0
          clear hhi hge ht hD hE hA hAt hFd hG hR hF hNA HST hEX
          go_wp2_with fail
          go_roundg p
          case measure => have := HK.out; omega
          case rel => exact ⟨p, G, R, by omega, rfl, rfl, rfl, rfl, hGl, hRb, HN, rfl⟩
        · have q2 : (E : Int) < (b : Int) := by omega
          have q3 : ¬ (b : Int) ≤ (E : Int) := by omega
          have HN : Hid (F = a / 2 ^ p / b ∧ E = a / 2 ^ p % b) := Lib.hid (by
            obtain ⟨x1, x2⟩ := HST.out.2 (by omega)
            refine ⟨by rw [x1, hFd], by rw [x2, ← hEX]⟩)
          have hRb : E < b := by omega
          clear hhi hge ht hD hE hA hAt hFd hG hR hF hNA HST hEX
          go_wp2_with fail
          go_roundg p
          case measure => have := HK.out; omega
          case rel => exact ⟨p, F, E, by omega, rfl, rfl, rfl, rfl, hFl, hRb, HN, rfl⟩
    | zero =>
      have HN : Hid (N = a / b ∧ L = a % b) := Lib.hid (by have := HI.out; simpa using this)
      go_wp2_with fail
      go_ret2
      rw [← HN.out.1, ← HN.out.2]
      exact ⟨rfl, rfl⟩
end Go.Proofs.YtpjpndndpcebcaaDoor
