/-
  Plain numbers: a product's quotient and rest, bit by bit. No program.
-/
namespace Go.Proofs.YtdkabldhkgidjaaDoor
set_option linter.unusedVariables false

theorem div_add (X Z c : Int) (hc : 0 < c) : (X + Z) / c = X / c + Z / c + (if c ≤ X % c + Z % c then 1 else 0) ∧ (X + Z) % c = X % c + Z % c - (if c ≤ X % c + Z % c then c else 0) := by
  have hx := Int.mul_ediv_add_emod X c
  have hz := Int.mul_ediv_add_emod Z c
  have x0 := Int.emod_nonneg X (show c ≠ 0 by omega)
  have x1 := Int.emod_lt_of_pos X hc
  have z0 := Int.emod_nonneg Z (show c ≠ 0 by omega)
  have z1 := Int.emod_lt_of_pos Z hc
  generalize X / c = p at *
  generalize Z / c = q at *
  generalize X % c = r at *
  generalize Z % c = s at *
  split
  · exact (Int.ediv_emod_unique hc).2 ⟨by grind, by omega, by omega⟩
  · exact (Int.ediv_emod_unique hc).2 ⟨by grind, by omega, by omega⟩

/-- One bit more of a. -/
theorem bit_more (a : Int) (k : Nat) : a / 2 ^ k = 2 * (a / 2 ^ (k + 1)) + a / 2 ^ k % 2 := by
  have e : a / 2 ^ (k + 1) = a / 2 ^ k / 2 := by
    rw [Int.pow_succ, Int.ediv_ediv_of_nonneg (Int.pow_nonneg (by omega))]
  rw [e]
  omega
theorem t_dbl (A b c : Int) (hc : 0 < c) : (2 * A * b) / c = 2 * (A * b / c) + (if c ≤ 2 * (A * b % c) then 1 else 0) ∧ (2 * A * b) % c = 2 * (A * b % c) - (if c ≤ 2 * (A * b % c) then c else 0) := by
  have h := div_add (A * b) (A * b) c hc
  have e : 2 * A * b = A * b + A * b := by grind
  rw [e, h.1, h.2]
  have e2 : A * b % c + A * b % c = 2 * (A * b % c) := by omega
  rw [e2]
  exact ⟨by omega, by omega⟩
theorem t_bit (A b c : Int) (hc : 0 < c) : ((2 * A + 1) * b) / c = (2 * A * b) / c + b / c + (if c ≤ (2 * A * b) % c + b % c then 1 else 0) ∧ ((2 * A + 1) * b) % c = (2 * A * b) % c + b % c - (if c ≤ (2 * A * b) % c + b % c then c else 0) := by
  have h := div_add (2 * A * b) b c hc
  have e : (2 * A + 1) * b = 2 * A * b + b := by grind
  rw [e]
  exact h
theorem pow_div_zero (a : Int) (h : 0 ≤ a) (h2 : a ≤ 9223372036854775807) : a / 2 ^ 63 = 0 := by omega
theorem part_le (a b c : Int) (k : Nat) (ha : 0 ≤ a) (hb : 0 ≤ b) (hc : 0 < c) : 0 ≤ a / 2 ^ k * b / c ∧ a / 2 ^ k * b / c ≤ a * b / c := by
  have h0 : 0 ≤ a / 2 ^ k := Int.ediv_nonneg ha (Int.pow_nonneg (by omega))
  have h1 : a / 2 ^ k ≤ a := Int.ediv_le_self _ ha
  refine ⟨Int.ediv_nonneg (Int.mul_nonneg h0 hb) (by omega), Int.ediv_le_ediv hc (Int.mul_le_mul_of_nonneg_right h1 hb)⟩

end Go.Proofs.YtdkabldhkgidjaaDoor
