/- evenhandref01: size, signed, one, Do. -/
import Derived.Test.YtpjpndndpcebcaaDoorRef01b
import Derived.Test.YtpjpndndpcebcaaDoorFoldRep
namespace Go.Proofs.YtpjpndndpcebcaaDoor
set_option linter.unusedVariables false
set_option linter.unusedSimpArgs false
open Go.RowKit

theorem wrap_small {x : Int} (h : In64 x) : wrap64 x = x := by unfold wrap64 In64 at *; omega
theorem u64_of {a : Int} (h : In64 a) : ∃ X : Nat, X < M64 ∧ IntKind.u64.wrap a = (X : Int) ∧ ((0 ≤ a ∧ (X : Int) = a) ∨ (a < 0 ∧ (X : Int) = a + 18446744073709551616)) := by
  unfold In64 at h
  refine ⟨(a % 18446744073709551616).toNat, by unfold M64; omega, by rw [IntKind.wrap_u64]; omega, ?_⟩
  omega

set_option maxHeartbeats 1000000 in
set_option maxRecDepth 100000 in
theorem one_any (b : Bool) (w : World) : Calls Tryd.prog 39 #[.bool b] w fun e w' => e = .returned (.int .i64 (if b then 1 else 0)) ∧ w' = w := by
  cases b
  · go_enter Tryd.func39, Tryd.ntmps39
    go_wp2
    go_ret
    exact ⟨rfl, rfl⟩
  · go_enter Tryd.func39, Tryd.ntmps39
    go_wp2
    go_ret
    exact ⟨rfl, rfl⟩
set_option maxHeartbeats 1000000 in
set_option maxRecDepth 100000 in
theorem size_any (a : Int) (h : In64 a) (w : World) : Calls Tryd.prog 42 #[.int .i64 a] w fun e w' => e = .returned (.tuple #[.int .u64 (a.natAbs : Int), .bool (decide (a < 0))]) ∧ w' = w := by
  obtain ⟨X, hX, e1, hx⟩ := u64_of h
  obtain ⟨N, hN⟩ : ∃ N, N = a.natAbs := ⟨_, rfl⟩
  rw [← hN]
  unfold In64 at h
  by_cases ha : a < 0
  · have C1 : Hid (Calls Tryd.prog 38 #[.int .u64 0, .int .u64 X] w fun e w' => e = .returned (.int .u64 (N : Int)) ∧ w' = w) := Lib.hid (by
      have e : N = (0 + (M64 - X)) % M64 := by unfold M64 at *; omega
      rw [e]
      exact minus_any 0 X (by unfold M64; omega) hX w)
    rw [decide_eq_true ha]
    clear hx hN h
    go_enter Tryd.func42, Tryd.ntmps42
    go_wp2_with fail
    refine C1.out.mono ?_; rintro e w1 ⟨rfl, hw⟩
    rw [hw]
    clear hw
    go_wp2_with fail
    go_ret2
    exact ⟨rfl, rfl⟩
  · have e : X = N := by omega
    subst e
    rw [decide_eq_false ha]
    have ha' : (0 : Int) ≤ a := by omega
    clear hx hN h
    go_enter Tryd.func42, Tryd.ntmps42
    go_wp2_with fail
    go_ret2
    exact ⟨rfl, rfl⟩
set_option maxHeartbeats 1000000 in
set_option maxRecDepth 100000 in
theorem signed_any (n : Nat) (h : n < M64) (b : Bool) (w : World) : Calls Tryd.prog 44 #[.int .u64 n, .bool b] w fun e w' => e = .returned (.int .i64 (wrap64 (if b then -(n : Int) else (n : Int)))) ∧ w' = w := by
  cases b
  · go_enter Tryd.func44, Tryd.ntmps44
    go_wp2_with fail
    go_ret
    exact ⟨rfl, rfl⟩
  · obtain ⟨R, hR⟩ : ∃ R, R = (0 + (M64 - n)) % M64 := ⟨_, rfl⟩
    have C1 : Hid (Calls Tryd.prog 38 #[.int .u64 0, .int .u64 n] w fun e w' => e = .returned (.int .u64 (R : Int)) ∧ w' = w) := Lib.hid (by
      rw [hR]
      exact minus_any 0 n (by unfold M64; omega) h w)
    have HR : Hid (wrap64 (R : Int) = wrap64 (-(n : Int))) := Lib.hid (by unfold wrap64; unfold M64 at *; omega)
    clear hR
    go_enter Tryd.func44, Tryd.ntmps44
    go_wp2_with fail
    refine C1.out.mono ?_; rintro e w1 ⟨rfl, hw⟩
    rw [hw]
    clear hw
    go_wp2_with fail
    go_ret
    simp only [if_true]
    rw [← HR.out]
    first | exact ⟨rfl, rfl⟩ | exact ⟨rfl, trivial⟩

theorem mul_wrap {a b : Int} {X Y : Nat} (hx : (0 ≤ a ∧ (X : Int) = a) ∨ (a < 0 ∧ (X : Int) = a + 18446744073709551616)) (hy : (0 ≤ b ∧ (Y : Int) = b) ∨ (b < 0 ∧ (Y : Int) = b + 18446744073709551616)) : wrap64 ((X * Y % M64 : Nat) : Int) = wrap64 (a * b) := by
  obtain ⟨s, hs⟩ : ∃ s : Int, (X : Int) = a + s * 18446744073709551616 := by
    rcases hx with ⟨_, h⟩ | ⟨_, h⟩
    · exact ⟨0, by omega⟩
    · exact ⟨1, by omega⟩
  obtain ⟨t, ht⟩ : ∃ t : Int, (Y : Int) = b + t * 18446744073709551616 := by
    rcases hy with ⟨_, h⟩ | ⟨_, h⟩
    · exact ⟨0, by omega⟩
    · exact ⟨1, by omega⟩
  have e : ((X * Y % M64 : Nat) : Int) = (X : Int) * (Y : Int) % 18446744073709551616 := by rw [Int.natCast_emod, Int.natCast_mul]; rfl
  have e2 : (X : Int) * (Y : Int) = a * b + 18446744073709551616 * (a * t + s * b + s * t * 18446744073709551616) := by rw [hs, ht]; simp only [Int.add_mul, Int.mul_add]; simp only [Int.mul_assoc, Int.mul_comm, Int.mul_left_comm]; omega
  have e3 : (X : Int) * (Y : Int) % 18446744073709551616 = a * b % 18446744073709551616 := by rw [e2, Int.add_mul_emod_self_left]
  rw [e, e3]
  unfold wrap64
  omega

set_option maxHeartbeats 1000000 in
set_option maxRecDepth 100000 in
theorem rdo6_any (a b : Int) (h1 : In64 a) (h2 : In64 b) (w : World) : Calls Tryd.prog 27 #[.int .i64 6, .int .i64 a, .int .i64 b] w fun e w' => e = .returned (.tuple #[.int .i64 (doV 6 a b).1, .bool (doV 6 a b).2]) ∧ w' = w := by
  obtain ⟨X, hX, e1, hx⟩ := u64_of h1
  obtain ⟨Y, hY, e2, hy⟩ := u64_of h2
  unfold In64 at h1 h2
  obtain ⟨R, hR⟩ : ∃ R, R = (0 + (M64 - X)) % M64 := ⟨_, rfl⟩
  have C1 : Hid (Calls Tryd.prog 38 #[.int .u64 0, .int .u64 X] w fun e w' => e = .returned (.int .u64 (R : Int)) ∧ w' = w) := Lib.hid (by rw [hR]; exact minus_any 0 X (by unfold M64; omega) hX w)
  have HR : Hid (wrap64 (R : Int) = wrap64 (-a)) := Lib.hid (by rw [hR]; unfold wrap64; unfold M64 at *; omega)
  clear hR hx hy h1 h2
  go_enter Tryd.func27, Tryd.ntmps27
  go_wp2_with fail
  refine C1.out.mono ?_; rintro e w1 ⟨rfl, hw⟩
  rw [hw]
  clear hw
  go_wp2_with fail
  go_ret2
  rw [HR.out]
  exact ⟨rfl, rfl⟩

set_option maxHeartbeats 1000000 in
set_option maxRecDepth 100000 in
theorem rdo8_any (a b : Int) (h1 : In64 a) (h2 : In64 b) (w : World) : Calls Tryd.prog 27 #[.int .i64 8, .int .i64 a, .int .i64 b] w fun e w' => e = .returned (.tuple #[.int .i64 (doV 8 a b).1, .bool (doV 8 a b).2]) ∧ w' = w := by
  obtain ⟨X, hX, e1, hx⟩ := u64_of h1
  obtain ⟨Y, hY, e2, hy⟩ := u64_of h2
  unfold In64 at h1 h2
  obtain ⟨R, hR⟩ : ∃ R, R = (X + Y) % M64 := ⟨_, rfl⟩
  have C1 : Hid (Calls Tryd.prog 40 #[.int .u64 X, .int .u64 Y] w fun e w' => e = .returned (.int .u64 (R : Int)) ∧ w' = w) := Lib.hid (by rw [hR]; exact plus_any X Y hX hY w)
  have HR : Hid (wrap64 (R : Int) = wrap64 (a + b)) := Lib.hid (by rw [hR]; unfold wrap64; unfold M64 at *; omega)
  clear hR hx hy h1 h2
  go_enter Tryd.func27, Tryd.ntmps27
  go_wp2_with fail
  refine C1.out.mono ?_; rintro e w1 ⟨rfl, hw⟩
  rw [hw]
  clear hw
  go_wp2_with fail
  go_ret2
  rw [HR.out]
  exact ⟨rfl, rfl⟩

set_option maxHeartbeats 1000000 in
set_option maxRecDepth 100000 in
theorem rdo9_any (a b : Int) (h1 : In64 a) (h2 : In64 b) (w : World) : Calls Tryd.prog 27 #[.int .i64 9, .int .i64 a, .int .i64 b] w fun e w' => e = .returned (.tuple #[.int .i64 (doV 9 a b).1, .bool (doV 9 a b).2]) ∧ w' = w := by
  obtain ⟨X, hX, e1, hx⟩ := u64_of h1
  obtain ⟨Y, hY, e2, hy⟩ := u64_of h2
  unfold In64 at h1 h2
  obtain ⟨R, hR⟩ : ∃ R, R = (X + (M64 - Y)) % M64 := ⟨_, rfl⟩
  have C1 : Hid (Calls Tryd.prog 38 #[.int .u64 X, .int .u64 Y] w fun e w' => e = .returned (.int .u64 (R : Int)) ∧ w' = w) := Lib.hid (by rw [hR]; exact minus_any X Y hX hY w)
  have HR : Hid (wrap64 (R : Int) = wrap64 (a - b)) := Lib.hid (by rw [hR]; unfold wrap64; unfold M64 at *; omega)
  clear hR hx hy h1 h2
  go_enter Tryd.func27, Tryd.ntmps27
  go_wp2_with fail
  refine C1.out.mono ?_; rintro e w1 ⟨rfl, hw⟩
  rw [hw]
  clear hw
  go_wp2_with fail
  go_ret2
  rw [HR.out]
  exact ⟨rfl, rfl⟩

set_option maxHeartbeats 1000000 in
set_option maxRecDepth 100000 in
theorem rdo10_any (a b : Int) (h1 : In64 a) (h2 : In64 b) (w : World) : Calls Tryd.prog 27 #[.int .i64 10, .int .i64 a, .int .i64 b] w fun e w' => e = .returned (.tuple #[.int .i64 (doV 10 a b).1, .bool (doV 10 a b).2]) ∧ w' = w := by
  obtain ⟨X, hX, e1, hx⟩ := u64_of h1
  obtain ⟨Y, hY, e2, hy⟩ := u64_of h2
  unfold In64 at h1 h2
  obtain ⟨R, hR⟩ : ∃ R, R = X * Y % M64 := ⟨_, rfl⟩
  have C1 : Hid (Calls Tryd.prog 41 #[.int .u64 X, .int .u64 Y] w fun e w' => e = .returned (.int .u64 (R : Int)) ∧ w' = w) := Lib.hid (by rw [hR]; exact times_any X Y hX hY w)
  have HR : Hid (wrap64 (R : Int) = wrap64 (a * b)) := Lib.hid (by rw [hR]; exact mul_wrap hx hy)
  clear hR hx hy h1 h2
  go_enter Tryd.func27, Tryd.ntmps27
  go_wp2_with fail
  refine C1.out.mono ?_; rintro e w1 ⟨rfl, hw⟩
  rw [hw]
  clear hw
  go_wp2_with fail
  go_ret2
  rw [HR.out]
  exact ⟨rfl, rfl⟩

theorem or_and (n : Nat) : ∀ a b : Nat, a ≤ n → (a ||| b) + (a &&& b) = a + b := by
  induction n using Nat.strongRecOn with
  | _ n ih =>
    intro a b ha
    by_cases h0 : a = 0
    · subst h0; simp
    · have h1 := ih (a / 2) (by omega) (a / 2) (b / 2) (Nat.le_refl _)
      have x1 : (a ||| b) / 2 = (a / 2) ||| (b / 2) := Nat.or_div_two
      have x2 : (a &&& b) / 2 = (a / 2) &&& (b / 2) := Nat.and_div_two
      have x3 : (a ||| b) % 2 = (a % 2) ||| (b % 2) := Nat.or_mod_two_pow (n := 1)
      have x4 : (a &&& b) % 2 = (a % 2) &&& (b % 2) := Nat.and_mod_two_pow (n := 1)
      rcases Nat.mod_two_eq_zero_or_one a with ha | ha <;> rcases Nat.mod_two_eq_zero_or_one b with hb | hb <;> rw [ha, hb] at x3 x4 <;> simp only [Nat.or_self, Nat.or_zero, Nat.zero_or, Nat.and_self, Nat.and_zero, Nat.zero_and] at x3 x4 <;> omega
theorem xor_high (X : Nat) (hX : X < M64) : X ^^^ 9223372036854775808 = if X < 9223372036854775808 then X + 9223372036854775808 else X - 9223372036854775808 := by
  have h := xor_and X X 9223372036854775808 (Nat.le_refl _)
  have h2 : (X &&& 9223372036854775808) % 2 ^ 63 = 0 := and_dvd X 9223372036854775808 63 (by decide)
  have h3 : (X &&& 9223372036854775808) / 2 ^ 63 = X / 2 ^ 63 &&& 9223372036854775808 / 2 ^ 63 := Nat.and_div_two_pow
  have h4 : 9223372036854775808 / 2 ^ 63 = 1 := by decide
  rw [h4] at h3
  have h5 : X / 2 ^ 63 &&& 1 = X / 2 ^ 63 % 2 := Nat.and_two_pow_sub_one_eq_mod _ 1
  rw [h5] at h3
  unfold M64 at hX
  split <;> omega
theorem ofInt_nat {a : Int} {X : Nat} (hX : X < M64) (hx : (0 ≤ a ∧ (X : Int) = a) ∨ (a < 0 ∧ (X : Int) = a + 18446744073709551616)) : (BitVec.ofInt 64 a).toNat = X := by
  rw [BitVec.toNat_ofInt]
  unfold M64 at hX
  omega
theorem i64_wrap (n : Int) : IntKind.i64.wrap n = wrap64 n := by unfold wrap64; rw [IntKind.wrap_i64]

set_option maxHeartbeats 1000000 in
set_option maxRecDepth 100000 in
theorem rdo7_any (a b : Int) (h1 : In64 a) (h2 : In64 b) (w : World) : Calls Tryd.prog 27 #[.int .i64 7, .int .i64 a, .int .i64 b] w fun e w' => e = .returned (.tuple #[.int .i64 (doV 7 a b).1, .bool (doV 7 a b).2]) ∧ w' = w := by
  obtain ⟨X, hX, e1, hx⟩ := u64_of h1
  obtain ⟨Y, hY, e2, hy⟩ := u64_of h2
  unfold In64 at h1 h2
  by_cases hz : a = 0
  · skip
    have q1 : ((X : Int) == 0) = true := by rw [beq_iff_eq]; omega
    have C1 := Lib.hid (one_any true w)
    have HV : Hid ((doV 7 a b).1 = (1 : Int)) := Lib.hid (by simp [doV, hz])
    clear hx hy h1 h2 hX hY hz
    go_enter Tryd.func27, Tryd.ntmps27
    go_wp2_with fail
    refine C1.out.mono ?_; rintro e w1 ⟨rfl, hw⟩
    rw [hw]
    clear hw
    go_wp2_with fail
    go_ret2
    rw [HV.out]
    exact ⟨rfl, rfl⟩
  · skip
    have q1 : ((X : Int) == 0) = false := by rw [beq_eq_false_iff_ne]; omega
    have C1 := Lib.hid (one_any false w)
    have HV : Hid ((doV 7 a b).1 = (0 : Int)) := Lib.hid (by simp [doV, hz])
    clear hx hy h1 h2 hX hY hz
    go_enter Tryd.func27, Tryd.ntmps27
    go_wp2_with fail
    refine C1.out.mono ?_; rintro e w1 ⟨rfl, hw⟩
    rw [hw]
    clear hw
    go_wp2_with fail
    go_ret2
    rw [HV.out]
    exact ⟨rfl, rfl⟩

set_option maxHeartbeats 1000000 in
set_option maxRecDepth 100000 in
theorem rdo13_any (a b : Int) (h1 : In64 a) (h2 : In64 b) (w : World) : Calls Tryd.prog 27 #[.int .i64 13, .int .i64 a, .int .i64 b] w fun e w' => e = .returned (.tuple #[.int .i64 (doV 13 a b).1, .bool (doV 13 a b).2]) ∧ w' = w := by
  obtain ⟨X, hX, e1, hx⟩ := u64_of h1
  obtain ⟨Y, hY, e2, hy⟩ := u64_of h2
  obtain ⟨U, hU⟩ : ∃ U, U = X ^^^ 9223372036854775808 := ⟨_, rfl⟩
  obtain ⟨V, hV⟩ : ∃ V, V = Y ^^^ 9223372036854775808 := ⟨_, rfl⟩
  have e3 : bits .xor .u64 (X : Int) 9223372036854775808 = (U : Int) := by rw [hU]; exact bits_xor_u64_nat X 9223372036854775808 hX (by omega)
  have e4 : bits .xor .u64 (Y : Int) 9223372036854775808 = (V : Int) := by rw [hV]; exact bits_xor_u64_nat Y 9223372036854775808 hY (by omega)
  rw [xor_high X hX] at hU
  rw [xor_high Y hY] at hV
  unfold In64 at h1 h2
  unfold M64 at hX hY
  have hu : (U : Int) = a + 9223372036854775808 := by rw [hU]; split <;> omega
  have hv : (V : Int) = b + 9223372036854775808 := by rw [hV]; split <;> omega
  clear hU hV
  by_cases hz : a < b
  · skip
    have q1 : (U : Int) < (V : Int) := by omega
    have C1 := Lib.hid (one_any true w)
    have HV : Hid ((doV 13 a b).1 = (1 : Int)) := Lib.hid (by simp [doV, hz])
    clear hx hy h1 h2 hX hY hz hu hv
    go_enter Tryd.func27, Tryd.ntmps27
    go_wp2_with fail
    refine C1.out.mono ?_; rintro e w1 ⟨rfl, hw⟩
    rw [hw]
    clear hw
    go_wp2_with fail
    go_ret2
    rw [HV.out]
    exact ⟨rfl, rfl⟩
  · skip
    have q1 : (V : Int) ≤ (U : Int) := by omega
    have q2 : ¬ (U : Int) < (V : Int) := by omega
    have C1 := Lib.hid (one_any false w)
    have HV : Hid ((doV 13 a b).1 = (0 : Int)) := Lib.hid (by simp [doV, hz])
    clear hx hy h1 h2 hX hY hz hu hv
    go_enter Tryd.func27, Tryd.ntmps27
    go_wp2_with fail
    refine C1.out.mono ?_; rintro e w1 ⟨rfl, hw⟩
    rw [hw]
    clear hw
    go_wp2_with fail
    go_ret2
    rw [HV.out]
    exact ⟨rfl, rfl⟩

set_option maxHeartbeats 1000000 in
set_option maxRecDepth 100000 in
theorem rdo14_any (a b : Int) (h1 : In64 a) (h2 : In64 b) (w : World) : Calls Tryd.prog 27 #[.int .i64 14, .int .i64 a, .int .i64 b] w fun e w' => e = .returned (.tuple #[.int .i64 (doV 14 a b).1, .bool (doV 14 a b).2]) ∧ w' = w := by
  obtain ⟨X, hX, e1, hx⟩ := u64_of h1
  obtain ⟨Y, hY, e2, hy⟩ := u64_of h2
  obtain ⟨U, hU⟩ : ∃ U, U = X ^^^ Y := ⟨_, rfl⟩
  have e3 : bits .xor .u64 (X : Int) (Y : Int) = (U : Int) := by rw [hU]; exact bits_xor_u64_nat X Y hX hY
  by_cases hz : a = b
  · skip
    have q1 : ((U : Int) == 0) = true := by
      have : X = Y := by omega
      rw [beq_iff_eq, hU, this, Nat.xor_self]; rfl
    have C1 := Lib.hid (one_any true w)
    have HV : Hid ((doV 14 a b).1 = (1 : Int)) := Lib.hid (by simp [doV, hz])
    clear hx hy h1 h2 hX hY hz hU
    go_enter Tryd.func27, Tryd.ntmps27
    go_wp2_with fail
    refine C1.out.mono ?_; rintro e w1 ⟨rfl, hw⟩
    rw [hw]
    clear hw
    go_wp2_with fail
    go_ret2
    rw [HV.out]
    exact ⟨rfl, rfl⟩
  · skip
    have q1 : ((U : Int) == 0) = false := by
      rw [beq_eq_false_iff_ne]
      intro h
      have h0 : X ^^^ Y = 0 := by omega
      have h3 := xor_and X X Y (Nat.le_refl _)
      have h4 : X &&& Y ≤ X := Nat.and_le_left
      have h5 : X &&& Y ≤ Y := Nat.and_le_right
      unfold In64 at h1 h2
      omega
    have C1 := Lib.hid (one_any false w)
    have HV : Hid ((doV 14 a b).1 = (0 : Int)) := Lib.hid (by simp [doV, hz])
    clear hx hy h1 h2 hX hY hz hU
    go_enter Tryd.func27, Tryd.ntmps27
    go_wp2_with fail
    refine C1.out.mono ?_; rintro e w1 ⟨rfl, hw⟩
    rw [hw]
    clear hw
    go_wp2_with fail
    go_ret2
    rw [HV.out]
    exact ⟨rfl, rfl⟩

set_option maxHeartbeats 1000000 in
set_option maxRecDepth 100000 in
theorem rdo15_any (a b : Int) (h1 : In64 a) (h2 : In64 b) (w : World) : Calls Tryd.prog 27 #[.int .i64 15, .int .i64 a, .int .i64 b] w fun e w' => e = .returned (.tuple #[.int .i64 (doV 15 a b).1, .bool (doV 15 a b).2]) ∧ w' = w := by
  obtain ⟨X, hX, e1, hx⟩ := u64_of h1
  obtain ⟨Y, hY, e2, hy⟩ := u64_of h2
  obtain ⟨U, hU⟩ : ∃ U, U = X &&& Y := ⟨_, rfl⟩
  have e3 : bits .and .u64 (X : Int) (Y : Int) = (U : Int) := by rw [hU]; exact bits_and_u64_nat X Y hX hY
  have HR : Hid (wrap64 (U : Int) = bits .and .i64 a b) := Lib.hid (by
    show _ = IntKind.i64.wrap ((BitVec.ofInt 64 a &&& BitVec.ofInt 64 b).toNat : Int)
    rw [BitVec.toNat_and, ofInt_nat hX hx, ofInt_nat hY hy, ← hU, i64_wrap])
  clear hU hx hy h1 h2 hX hY
  go_enter Tryd.func27, Tryd.ntmps27
  go_wp2_with fail
  go_ret2
  rw [HR.out]
  exact ⟨rfl, rfl⟩

set_option maxHeartbeats 1000000 in
set_option maxRecDepth 100000 in
theorem rdo16_any (a b : Int) (h1 : In64 a) (h2 : In64 b) (w : World) : Calls Tryd.prog 27 #[.int .i64 16, .int .i64 a, .int .i64 b] w fun e w' => e = .returned (.tuple #[.int .i64 (doV 16 a b).1, .bool (doV 16 a b).2]) ∧ w' = w := by
  obtain ⟨X, hX, e1, hx⟩ := u64_of h1
  obtain ⟨Y, hY, e2, hy⟩ := u64_of h2
  obtain ⟨U, hU⟩ : ∃ U, U = X &&& Y := ⟨_, rfl⟩
  have e3 : bits .and .u64 (X : Int) (Y : Int) = (U : Int) := by rw [hU]; exact bits_and_u64_nat X Y hX hY
  have hUl : U < M64 := by rw [hU]; exact Nat.and_lt_two_pow (n := 64) X hY
  obtain ⟨S, hS⟩ : ∃ S, S = (X + Y) % M64 := ⟨_, rfl⟩
  have hSl : S < M64 := by rw [hS]; exact Nat.mod_lt _ (by unfold M64; omega)
  obtain ⟨R, hR⟩ : ∃ R, R = (S + (M64 - U)) % M64 := ⟨_, rfl⟩
  have C1 : Hid (Calls Tryd.prog 40 #[.int .u64 X, .int .u64 Y] w fun e w' => e = .returned (.int .u64 (S : Int)) ∧ w' = w) := Lib.hid (by rw [hS]; exact plus_any X Y hX hY w)
  have C2 : Hid (Calls Tryd.prog 38 #[.int .u64 S, .int .u64 U] w fun e w' => e = .returned (.int .u64 (R : Int)) ∧ w' = w) := Lib.hid (by rw [hR]; exact minus_any S U hSl hUl w)
  have HR : Hid (wrap64 (R : Int) = bits .or .i64 a b) := Lib.hid (by
    show _ = IntKind.i64.wrap ((BitVec.ofInt 64 a ||| BitVec.ofInt 64 b).toNat : Int)
    rw [BitVec.toNat_or, ofInt_nat hX hx, ofInt_nat hY hy, i64_wrap]
    have h := or_and X X Y (Nat.le_refl _)
    have hl : X ||| Y < M64 := Nat.or_lt_two_pow (n := 64) hX hY
    rw [← hU] at h
    have e : R = X ||| Y := by rw [hR, hS]; unfold M64 at *; omega
    rw [e])
  clear hU hx hy h1 h2 hX hY hR hS hUl hSl
  go_enter Tryd.func27, Tryd.ntmps27
  go_wp2_with fail
  refine C1.out.mono ?_; rintro e w1 ⟨rfl, hw⟩
  rw [hw]
  clear hw
  go_wp2_with fail
  refine C2.out.mono ?_; rintro e w1 ⟨rfl, hw⟩
  rw [hw]
  clear hw
  go_wp2_with fail
  go_ret2
  rw [HR.out]
  exact ⟨rfl, rfl⟩

theorem abs_cases (a : Int) : (a < 0 ∧ a = -(a.natAbs : Int)) ∨ (¬ a < 0 ∧ a = (a.natAbs : Int)) := by omega
theorem tdiv_abs (a b : Int) : wrap64 (a.tdiv b) = wrap64 (if (decide (a < 0) != decide (b < 0)) = true then -((a.natAbs / b.natAbs : Nat) : Int) else ((a.natAbs / b.natAbs : Nat) : Int)) := by
  congr 1
  rcases abs_cases a with ⟨ha, ea⟩ | ⟨ha, ea⟩ <;> rcases abs_cases b with ⟨hb, eb⟩ | ⟨hb, eb⟩
  · rw [if_neg (by simp [ha, hb])]
    conv => lhs; rw [ea, eb]
    rw [Int.tdiv_neg, Int.neg_tdiv, Int.neg_neg]
    rfl
  · rw [if_pos (by simp [ha, hb])]
    conv => lhs; rw [ea, eb]
    rw [Int.neg_tdiv]
    rfl
  · rw [if_pos (by simp [ha, hb])]
    conv => lhs; rw [ea, eb]
    rw [Int.tdiv_neg]
    rfl
  · rw [if_neg (by simp [ha, hb])]
    conv => lhs; rw [ea, eb]
    rfl
theorem tmod_abs {a b : Int} (h1 : -9223372036854775808 ≤ a ∧ a ≤ 9223372036854775807) (hb : b ≠ 0) : a.tmod b = wrap64 (if decide (a < 0) = true then -((a.natAbs % b.natAbs : Nat) : Int) else ((a.natAbs % b.natAbs : Nat) : Int)) := by
  have hle : a.natAbs % b.natAbs ≤ a.natAbs := Nat.mod_le _ _
  have h3 : a.tmod b = a.tmod (b.natAbs : Int) := by
    rcases abs_cases b with ⟨hb, eb⟩ | ⟨hb, eb⟩
    · conv => lhs; rw [eb]
      rw [Int.tmod_neg]
    · conv => lhs; rw [eb]
  rw [h3]
  rcases abs_cases a with ⟨ha, ea⟩ | ⟨ha, ea⟩
  · rw [if_pos (by simp [ha])]
    have e : a.tmod (b.natAbs : Int) = -((a.natAbs % b.natAbs : Nat) : Int) := by
      conv => lhs; rw [ea]
      rw [Int.neg_tmod]
      rfl
    rw [e, wrap_small (by unfold In64; omega)]
  · rw [if_neg (by simp [ha])]
    have e : a.tmod (b.natAbs : Int) = ((a.natAbs % b.natAbs : Nat) : Int) := by
      conv => lhs; rw [ea]
      rfl
    rw [e, wrap_small (by unfold In64; omega)]

set_option maxHeartbeats 1000000 in
set_option maxRecDepth 100000 in
theorem rdo11_any (a b : Int) (h1 : In64 a) (h2 : In64 b) (w : World) : Calls Tryd.prog 27 #[.int .i64 11, .int .i64 a, .int .i64 b] w fun e w' => e = .returned (.tuple #[.int .i64 (doV 11 a b).1, .bool (doV 11 a b).2]) ∧ w' = w := by
  obtain ⟨X, hX, e1, hx⟩ := u64_of h1
  obtain ⟨Y, hY, e2, hy⟩ := u64_of h2
  by_cases hb : b = 0
  · have HV : Hid ((doV 11 a b).1 = 0 ∧ (doV 11 a b).2 = false) := Lib.hid (by simp [doV, hb])
    have q1 : (b == 0) = true := by rw [hb]; rfl
    clear hb
    go_enter Tryd.func27, Tryd.ntmps27
    go_wp2_with fail
    go_ret2
    rw [HV.out.1, HV.out.2]
    exact ⟨rfl, rfl⟩
  · have q1 : (b == 0) = false := by rw [beq_eq_false_iff_ne]; exact hb
    obtain ⟨n, hn⟩ : ∃ n, n = a.natAbs := ⟨_, rfl⟩
    obtain ⟨m, hm⟩ : ∃ m, m = b.natAbs := ⟨_, rfl⟩
    obtain ⟨da, hda⟩ : ∃ da, da = decide (a < 0) := ⟨_, rfl⟩
    obtain ⟨db, hdb⟩ : ∃ db, db = decide (b < 0) := ⟨_, rfl⟩
    obtain ⟨Q, hQ⟩ : ∃ Q, Q = n / m := ⟨_, rfl⟩
    obtain ⟨R, hR⟩ : ∃ R, R = n % m := ⟨_, rfl⟩
    have C1 := Lib.hid (size_any a h1 w)
    have C2 := Lib.hid (size_any b h2 w)
    rw [← hn, ← hda] at C1
    rw [← hm, ← hdb] at C2
    have hnl : n < M64 := by unfold In64 at h1; unfold M64; omega
    have hml : m < M64 := by unfold In64 at h2; unfold M64; omega
    have C3 := Lib.hid (parted_any n m hnl hml (by omega) w)
    rw [← hQ, ← hR] at C3
    have hQl : Q < M64 := by rw [hQ]; exact Nat.lt_of_le_of_lt (Nat.div_le_self _ _) hnl
    have hRl : R < M64 := by rw [hR]; exact Nat.lt_of_le_of_lt (Nat.mod_le _ _) hnl
    obtain ⟨sg, hsg⟩ : ∃ sg : Bool, (!(da == db)) = sg := ⟨_, rfl⟩
    have C4 := Lib.hid (signed_any Q hQl sg w)
    obtain ⟨vv, hvv⟩ : ∃ vv, vv = wrap64 (if sg then -(Q : Int) else (Q : Int)) := ⟨_, rfl⟩
    rw [← hvv] at C4
    have HV : Hid ((doV 11 a b).1 = vv ∧ (doV 11 a b).2 = true) := Lib.hid (by
      rw [hvv]
      rw [← hsg]
      subst hda hdb hQ hR hn hm
      unfold In64 at h1 h2
      have h := tdiv_abs a b
      unfold bne at h
      simp only [doV]
      rw [if_neg (by omega), if_neg (by omega), if_neg (by omega), if_neg (by omega), if_neg (by omega), if_pos trivial, if_neg hb]
      exact ⟨h, rfl⟩)
    clear hvv hb hx hy h1 h2 hX hY hn hm hda hdb hQ hR hnl hml hQl hRl 
    go_enter Tryd.func27, Tryd.ntmps27
    go_wp2_with fail
    refine C1.out.mono ?_; rintro e w1 ⟨rfl, hw⟩
    rw [hw]
    clear hw
    go_wp2_with fail
    refine C2.out.mono ?_; rintro e w1 ⟨rfl, hw⟩
    rw [hw]
    clear hw
    go_wp2_with fail
    refine C3.out.mono ?_; rintro e w1 ⟨rfl, hw⟩
    rw [hw]
    clear hw
    go_wp2_with fail
    try rw [hsg]
    refine C4.out.mono ?_; rintro e w1 ⟨rfl, hw⟩
    rw [hw]
    clear hw
    go_wp2_with fail
    go_ret2
    rw [HV.out.1, HV.out.2]
    exact ⟨rfl, rfl⟩

set_option maxHeartbeats 1000000 in
set_option maxRecDepth 100000 in
theorem rdo12_any (a b : Int) (h1 : In64 a) (h2 : In64 b) (w : World) : Calls Tryd.prog 27 #[.int .i64 12, .int .i64 a, .int .i64 b] w fun e w' => e = .returned (.tuple #[.int .i64 (doV 12 a b).1, .bool (doV 12 a b).2]) ∧ w' = w := by
  obtain ⟨X, hX, e1, hx⟩ := u64_of h1
  obtain ⟨Y, hY, e2, hy⟩ := u64_of h2
  by_cases hb : b = 0
  · have HV : Hid ((doV 12 a b).1 = 0 ∧ (doV 12 a b).2 = false) := Lib.hid (by simp [doV, hb])
    have q1 : (b == 0) = true := by rw [hb]; rfl
    clear hb
    go_enter Tryd.func27, Tryd.ntmps27
    go_wp2_with fail
    go_ret2
    rw [HV.out.1, HV.out.2]
    exact ⟨rfl, rfl⟩
  · have q1 : (b == 0) = false := by rw [beq_eq_false_iff_ne]; exact hb
    obtain ⟨n, hn⟩ : ∃ n, n = a.natAbs := ⟨_, rfl⟩
    obtain ⟨m, hm⟩ : ∃ m, m = b.natAbs := ⟨_, rfl⟩
    obtain ⟨da, hda⟩ : ∃ da, da = decide (a < 0) := ⟨_, rfl⟩
    obtain ⟨db, hdb⟩ : ∃ db, db = decide (b < 0) := ⟨_, rfl⟩
    obtain ⟨Q, hQ⟩ : ∃ Q, Q = n / m := ⟨_, rfl⟩
    obtain ⟨R, hR⟩ : ∃ R, R = n % m := ⟨_, rfl⟩
    have C1 := Lib.hid (size_any a h1 w)
    have C2 := Lib.hid (size_any b h2 w)
    rw [← hn, ← hda] at C1
    rw [← hm, ← hdb] at C2
    have hnl : n < M64 := by unfold In64 at h1; unfold M64; omega
    have hml : m < M64 := by unfold In64 at h2; unfold M64; omega
    have C3 := Lib.hid (parted_any n m hnl hml (by omega) w)
    rw [← hQ, ← hR] at C3
    have hQl : Q < M64 := by rw [hQ]; exact Nat.lt_of_le_of_lt (Nat.div_le_self _ _) hnl
    have hRl : R < M64 := by rw [hR]; exact Nat.lt_of_le_of_lt (Nat.mod_le _ _) hnl
    have C4 := Lib.hid (signed_any R hRl da w)
    obtain ⟨vv, hvv⟩ : ∃ vv, vv = wrap64 (if da then -(R : Int) else (R : Int)) := ⟨_, rfl⟩
    rw [← hvv] at C4
    have HV : Hid ((doV 12 a b).1 = vv ∧ (doV 12 a b).2 = true) := Lib.hid (by
      rw [hvv]
      subst hda hdb hQ hR hn hm
      unfold In64 at h1 h2
      have h := tmod_abs h1 hb
      simp only [doV]
      rw [if_neg (by omega), if_neg (by omega), if_neg (by omega), if_neg (by omega), if_neg (by omega), if_neg (by omega), if_pos trivial, if_neg hb]
      exact ⟨h, rfl⟩)
    clear hvv hb hx hy h1 h2 hX hY hn hm hda hdb hQ hR hnl hml hQl hRl
    go_enter Tryd.func27, Tryd.ntmps27
    go_wp2_with fail
    refine C1.out.mono ?_; rintro e w1 ⟨rfl, hw⟩
    rw [hw]
    clear hw
    go_wp2_with fail
    refine C2.out.mono ?_; rintro e w1 ⟨rfl, hw⟩
    rw [hw]
    clear hw
    go_wp2_with fail
    refine C3.out.mono ?_; rintro e w1 ⟨rfl, hw⟩
    rw [hw]
    clear hw
    go_wp2_with fail
    skip
    refine C4.out.mono ?_; rintro e w1 ⟨rfl, hw⟩
    rw [hw]
    clear hw
    go_wp2_with fail
    go_ret2
    rw [HV.out.1, HV.out.2]
    exact ⟨rfl, rfl⟩
end Go.Proofs.YtpjpndndpcebcaaDoor
