/- evenhandref01: numbers without a sign, bit by bit. -/
import Derived.Test.YtpjpndndpcebcaaDoorFoldDo
import Derived.Laws.Bits64b
import Derived.Laws.DeepNot64
namespace Go.Proofs.YtpjpndndpcebcaaDoor
set_option linter.unusedVariables false
set_option linter.unusedSimpArgs false
open Go.RowKit

abbrev M64 : Nat := 18446744073709551616
theorem xor_and (n : Nat) : ∀ a b : Nat, a ≤ n → (a ^^^ b) + 2 * (a &&& b) = a + b := by
  induction n using Nat.strongRecOn with
  | _ n ih =>
    intro a b ha
    by_cases h0 : a = 0
    · subst h0; simp
    · have h1 := ih (a / 2) (by omega) (a / 2) (b / 2) (Nat.le_refl _)
      have x1 : (a ^^^ b) / 2 = (a / 2) ^^^ (b / 2) := Nat.xor_div_two
      have x2 : (a &&& b) / 2 = (a / 2) &&& (b / 2) := Nat.and_div_two
      have x3 : (a ^^^ b) % 2 = (a % 2) ^^^ (b % 2) := Nat.xor_mod_two_pow (n := 1)
      have x4 : (a &&& b) % 2 = (a % 2) &&& (b % 2) := Nat.and_mod_two_pow (n := 1)
      rcases Nat.mod_two_eq_zero_or_one a with ha | ha <;> rcases Nat.mod_two_eq_zero_or_one b with hb | hb <;> rw [ha, hb] at x3 x4 <;> simp only [Nat.xor_self, Nat.xor_zero, Nat.zero_xor, Nat.and_self, Nat.and_zero, Nat.zero_and] at x3 x4 <;> omega
theorem and_dvd (a b i : Nat) (h : b % 2 ^ i = 0) : (a &&& b) % 2 ^ i = 0 := by
  rw [Nat.and_mod_two_pow, h]
  simp
/-- one round of a sum -/
theorem plus_step {a b x y i : Nat} (h : (x + y) % M64 = (a + b) % M64) (hi : i < 64) (hy : y % 2 ^ i = 0) :
    ((x ^^^ y) + (x &&& y) * 2 % M64) % M64 = (a + b) % M64 ∧ ((x &&& y) * 2 % M64) % 2 ^ (i + 1) = 0 := by
  have h1 := xor_and x x y (Nat.le_refl _)
  refine ⟨by rw [← h, ← h1]; unfold M64; omega, ?_⟩
  have h2 := and_dvd x y i hy
  have h3 : M64 = 2 ^ (i + 1) * 2 ^ (63 - i) := by rw [← Nat.pow_add, show i + 1 + (63 - i) = 64 by omega]
  rw [h3, Nat.mod_mul_right_mod, Nat.pow_succ]
  have h4 : 2 ^ i ∣ (x &&& y) := Nat.dvd_of_mod_eq_zero h2
  exact Nat.mod_eq_zero_of_dvd (Nat.mul_dvd_mul_right h4 2)

set_option maxHeartbeats 4000000 in
set_option maxRecDepth 100000 in
theorem plus_any (a b : Nat) (ha : a < M64) (hb : b < M64) (w : World) : Calls Tryd.prog 40 #[.int .u64 a, .int .u64 b] w fun e w' => e = .returned (.int .u64 (((a + b) % M64 : Nat) : Int)) ∧ w' = w := by
  go_enter Tryd.func40, Tryd.ntmps40
  go_wp2_with fail
  go_loopg [0, 1, 5] 64 (fun k x y i wr => ∃ j X Y : Nat, j ≤ 64 ∧ k = 64 - j ∧ i = .int .i64 j ∧ x = .int .u64 X ∧ y = .int .u64 Y ∧ X < M64 ∧ Y < M64 ∧ Hid ((X + Y) % M64 = (a + b) % M64 ∧ Y % 2 ^ j = 0) ∧ wr = w)
  case atStart => exact ⟨0, a, b, by omega, rfl, rfl, rfl, rfl, ha, hb, Lib.hid ⟨rfl, by omega⟩, rfl⟩
  case round =>
    obtain ⟨j, X, Y, hj, hk, rfl, rfl, rfl, hX, hY, HI, hw⟩ := hrel
    subst hw
    have HK := Lib.hid hk
    clear hk
    have hX0 := hX
    have hY0 := hY
    unfold M64 at hX0 hY0
    have e1 := bits_and_u64_nat X Y hX0 hY0
    have e2 := bits_xor_u64_nat X Y hX0 hY0
    by_cases hlt : j < 64
    · have hlt' : (j : Int) < 64 := by omega
      have e3 : IntKind.u64.wrap (((X &&& Y : Nat) : Int) * 2) = (((X &&& Y) * 2 % M64 : Nat) : Int) := by rw [IntKind.wrap_u64]; unfold M64; omega
      obtain ⟨i1, i2⟩ := plus_step HI.out.1 hlt HI.out.2
      have hx1 : X ^^^ Y < M64 := Nat.xor_lt_two_pow (n := 64) hX hY
      have HN : Hid (((X ^^^ Y) + (X &&& Y) * 2 % M64) % M64 = (a + b) % M64 ∧ ((X &&& Y) * 2 % M64) % 2 ^ (j + 1) = 0) := Lib.hid ⟨i1, i2⟩
      clear i1 i2
      go_wp2_with fail
      go_roundg (64 - (j + 1))
      case measure => have := HK.out; omega
      case rel => exact ⟨j + 1, _, _, by omega, rfl, by go_num, rfl, by congr 1, hx1, Nat.mod_lt _ (by unfold M64; omega), HN, rfl⟩
    · obtain rfl : j = 64 := by omega
      have hY1 : Y = 0 := by have := HI.out.2; unfold M64 at hY; omega
      have hX1 : X = (a + b) % M64 := by have := HI.out.1; rw [hY1, Nat.add_zero, Nat.mod_eq_of_lt hX] at this; exact this
      have HX1 := Lib.hid hX1
      clear hX1 hY1
      go_wp2_with fail
      go_ret
      rw [← HX1.out]
      exact ⟨rfl, rfl⟩

theorem not_nat (b : Nat) (hb : b < M64) : bits .xor .u64 18446744073709551615 (b : Int) = ((M64 - 1 - b : Nat) : Int) := by
  have h := bits_xor_u64_nat 18446744073709551615 b (by omega) hb
  have h2 : 18446744073709551615 ^^^ b = M64 - 1 - b := by
    have h3 := xor_and 18446744073709551615 18446744073709551615 b (Nat.le_refl _)
    have h4 : 18446744073709551615 &&& b = b := by
      rw [Nat.and_comm]
      have := Nat.and_two_pow_sub_one_eq_mod b 64
      rw [show (2 ^ 64 - 1 : Nat) = 18446744073709551615 by decide] at this
      rw [this]
      exact Nat.mod_eq_of_lt hb
    rw [h4] at h3
    unfold M64 at hb ⊢
    omega
  rw [← h2]
  exact h

set_option maxHeartbeats 4000000 in
set_option maxRecDepth 100000 in
theorem minus_any (a b : Nat) (ha : a < M64) (hb : b < M64) (w : World) : Calls Tryd.prog 38 #[.int .u64 a, .int .u64 b] w fun e w' => e = .returned (.int .u64 (((a + (M64 - b)) % M64 : Nat) : Int)) ∧ w' = w := by
  obtain ⟨c, hc⟩ : ∃ c, c = M64 - 1 - b := ⟨_, rfl⟩
  have hcl : c < M64 := by rw [hc]; unfold M64; omega
  obtain ⟨d, hd⟩ : ∃ d, d = (c + 1) % M64 := ⟨_, rfl⟩
  have hdl : d < M64 := by rw [hd]; exact Nat.mod_lt _ (by unfold M64; omega)
  have C1 : Hid (Calls Tryd.prog 40 #[.int .u64 c, .int .u64 1] w fun e w' => e = .returned (.int .u64 d) ∧ w' = w) := Lib.hid (by rw [hd]; exact plus_any c 1 hcl (by unfold M64; omega) w)
  have e2 : (a + d) % M64 = (a + (M64 - b)) % M64 := by rw [hd, hc]; unfold M64 at *; omega
  have C2 : Hid (Calls Tryd.prog 40 #[.int .u64 a, .int .u64 d] w fun e w' => e = .returned (.int .u64 (((a + (M64 - b)) % M64 : Nat) : Int)) ∧ w' = w) := Lib.hid (by rw [← e2]; exact plus_any a d ha hdl w)
  have e1 : bits .xor .u64 IntKind.u64.max (b : Int) = (c : Int) := by rw [hc]; exact not_nat b hb
  clear hc hd e2 hcl hdl ha hb
  generalize (a + (M64 - b)) % M64 = r at *
  go_enter Tryd.func38, Tryd.ntmps38
  go_wp2_with fail
  refine C1.out.mono ?_; rintro e w1 ⟨rfl, hw⟩
  rw [hw]
  clear hw
  go_wp2_with fail
  refine C2.out.mono ?_; rintro e w1 ⟨rfl, hw⟩
  rw [hw]
  clear hw
  go_wp2_with fail
  go_ret
  exact ⟨rfl, rfl⟩
end Go.Proofs.YtpjpndndpcebcaaDoor
