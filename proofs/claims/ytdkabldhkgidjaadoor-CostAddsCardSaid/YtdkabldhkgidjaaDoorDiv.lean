/-
  Plain numbers for math/bits.Div64: long division by two digits of 32 bits.
-/
import Derived.WalkKit
import Derived.Lib.BitFns
import Derived.Lib.EndianBits
namespace Go.Proofs.YtdkabldhkgidjaaDoor
set_option linter.unusedVariables false
set_option linter.unusedSimpArgs false
open Go.RowKit

theorem bitLenAux_bd : ∀ (f x : Nat), x < 2 ^ f → x ≠ 0 → 1 ≤ Lib.bitLenAux f x ∧ 2 ^ (Lib.bitLenAux f x - 1) ≤ x ∧ x < 2 ^ Lib.bitLenAux f x
  | 0, x, h, h0 => by simp at h; omega
  | f + 1, x, h, h0 => by
    unfold Lib.bitLenAux
    by_cases h1 : x = 1
    · subst h1
      have : Lib.bitLenAux f (1 / 2) = 0 := by cases f <;> simp [Lib.bitLenAux]
      simp [this]
    · have ih := bitLenAux_bd f (x / 2) (by rw [Nat.pow_succ] at h; omega) (by omega)
      simp only [h0, if_false]
      generalize Lib.bitLenAux f (x / 2) = L at *
      obtain ⟨a, b, c⟩ := ih
      obtain ⟨L, rfl⟩ : ∃ M, L = M + 1 := ⟨L - 1, by omega⟩
      have e1 : 1 + (L + 1) - 1 = L + 1 := by omega
      have e2 : 1 + (L + 1) = (L + 1) + 1 := by omega
      rw [e1, e2]
      simp only [Nat.add_sub_cancel, Nat.pow_succ] at b c ⊢
      exact ⟨by omega, by omega, by omega⟩

/-- The shift: y times 2^s has its highest bit set. -/
theorem shift_bd (y : Int) (h0 : 1 ≤ y) (h1 : y < 18446744073709551616) :
    let s : Int := 64 - (Lib.bitLen y.toNat : Int)
    0 ≤ s ∧ s ≤ 63 ∧ 9223372036854775808 ≤ y * 2 ^ s.toNat ∧ y * 2 ^ s.toNat < 18446744073709551616 := by
  intro s
  obtain ⟨x, rfl⟩ := Int.eq_ofNat_of_zero_le (show 0 ≤ y by omega)
  obtain ⟨a, b, c⟩ := bitLenAux_bd 64 x (by omega) (by omega)
  have hs : s = 64 - (Lib.bitLenAux 64 x : Int) := rfl
  have d : Lib.bitLenAux 64 x ≤ 64 := Lib.bitLenAux_le 64 x 64 (by omega)
  generalize Lib.bitLenAux 64 x = L at *
  refine ⟨by omega, by omega, ?_⟩
  have e : s.toNat = 64 - L := by omega
  rw [e]
  have k1 : (2 : Nat) ^ (L - 1) * 2 ^ (64 - L) = 2 ^ 63 := by rw [← Nat.pow_add]; congr 1; omega
  have k2 : (2 : Nat) ^ L * 2 ^ (64 - L) = 2 ^ 64 := by rw [← Nat.pow_add]; congr 1; omega
  have k3 : 2 ^ (L - 1) * 2 ^ (64 - L) ≤ x * 2 ^ (64 - L) := Nat.mul_le_mul_right _ b
  have k4 : x * 2 ^ (64 - L) < 2 ^ L * 2 ^ (64 - L) := Nat.mul_lt_mul_of_pos_right c (Nat.two_pow_pos _)
  rw [k1] at k3
  rw [k2] at k4
  have k5 : ((x : Int) * 2 ^ (64 - L)) = ((x * 2 ^ (64 - L) : Nat) : Int) := by simp
  rw [k5]
  omega

/-- What the estimate of a digit comes to: never less than the digit. -/
theorem digit_start (U l v1 v0 V Q : Int) (hV : V = v1 * 4294967296 + v0) (h1 : 2147483648 ≤ v1) (h2 : v1 < 4294967296) (h3 : 0 ≤ v0) (h4 : v0 < 4294967296) (hU : 0 ≤ U) (hU' : U < V) (hl : 0 ≤ l) (hl' : l < 4294967296)
    (hQ : Q = (U * 4294967296 + l) / V) : 0 ≤ Q ∧ Q < 4294967296 ∧ Q ≤ U / v1 ∧ U / v1 ≤ 4294967297 ∧ 0 ≤ U - U / v1 * v1 ∧ U - U / v1 * v1 < v1 ∧ 0 ≤ U / v1 * v1 := by
  have hV0 : 0 < V := by omega
  have q1 : 0 ≤ Q := by rw [hQ]; exact Int.ediv_nonneg (by omega) (by omega)
  have q2 : V * Q ≤ U * 4294967296 + l := by rw [hQ]; exact Int.mul_ediv_self_le (by omega)
  have q3 : Q < 4294967296 := by
    rw [hQ]
    apply Int.ediv_lt_of_lt_mul hV0
    omega
  have d1 := Int.mul_ediv_add_emod U v1
  have d2 := Int.emod_nonneg U (show v1 ≠ 0 by omega)
  have d3 := Int.emod_lt_of_pos U (show 0 < v1 by omega)
  have d4 : v1 * (U / v1) = U / v1 * v1 := Int.mul_comm _ _
  have d5 : 0 ≤ U / v1 := Int.ediv_nonneg hU (by omega)
  have q4 : Q ≤ U / v1 := by
    have : v1 * Q ≤ U := by
      have k : V * Q = v1 * Q * 4294967296 + v0 * Q := by rw [hV, Int.add_mul, Int.mul_right_comm]
      have k2 : 0 ≤ v0 * Q := Int.mul_nonneg h3 q1
      omega
    exact (Int.le_ediv_iff_mul_le (by omega)).2 (by rw [Int.mul_comm]; exact this)
  have q5 : U / v1 ≤ 4294967297 := by
    have : U / v1 < 4294967298 := by
      apply Int.ediv_lt_of_lt_mul (by omega)
      omega
    omega
  refine ⟨q1, q3, q4, q5, by omega, by omega, Int.mul_nonneg d5 (by omega)⟩

/-- Where the test holds the estimate is too great. -/
theorem digit_more (U l v1 v0 V Q q : Int) (hV : V = v1 * 4294967296 + v0) (h1 : 2147483648 ≤ v1) (h3 : 0 ≤ v0) (hU : 0 ≤ U) (hl : 0 ≤ l) (hQ : Q = (U * 4294967296 + l) / V) 
    (ht : 4294967296 * (U - q * v1) + l < q * v0) : Q < q := by
  rw [hQ]
  apply Int.ediv_lt_of_lt_mul (by omega)
  have : q * V = q * v1 * 4294967296 + q * v0 := by rw [hV, Int.mul_add, Int.mul_assoc]
  omega
/-- Where it does not, it is the digit. -/
theorem digit_done (U l v1 v0 V Q q : Int) (hV : V = v1 * 4294967296 + v0) (h1 : 2147483648 ≤ v1) (h3 : 0 ≤ v0) (hU : 0 ≤ U) (hl : 0 ≤ l) (hQ : Q = (U * 4294967296 + l) / V) (hq : Q ≤ q)
    (ht : q * v0 ≤ 4294967296 * (U - q * v1) + l) : q = Q := by
  have : q ≤ Q := by
    rw [hQ]
    apply (Int.le_ediv_iff_mul_le (by omega)).2
    have : q * V = q * v1 * 4294967296 + q * v0 := by rw [hV, Int.mul_add, Int.mul_assoc]
    omega
  omega

theorem wrap_mod (x : Int) : IntKind.u64.wrap x = x % 18446744073709551616 := IntKind.wrap_u64 x
/-- The remainder, behind all wraps. -/
theorem digit_rest (U l V Q : Int) (hV : 0 < V) (hV' : V < 18446744073709551616) (hQ : Q = (U * 4294967296 + l) / V) :
    IntKind.u64.wrap (IntKind.u64.wrap (IntKind.u64.wrap (U * 4294967296) + l) - IntKind.u64.wrap (Q * V)) = (U * 4294967296 + l) % V := by
  have d1 := Int.mul_ediv_add_emod (U * 4294967296 + l) V
  have d2 := Int.emod_nonneg (U * 4294967296 + l) (show V ≠ 0 by omega)
  have d3 := Int.emod_lt_of_pos (U * 4294967296 + l) hV
  rw [← hQ, Int.mul_comm V Q] at d1
  simp only [wrap_mod]
  omega

/-- The two digits and what is left make the quotient. -/
theorem two_digits (N V Q1 R1 Q0 R0 l1 l0 U : Int) (hN : N = U * 18446744073709551616 + l1 * 4294967296 + l0) (hl1 : 0 ≤ l1) (hl1' : l1 < 4294967296) (hl0 : 0 ≤ l0) (hl0' : l0 < 4294967296) (hV : 0 < V)
    (e1 : Q1 = (U * 4294967296 + l1) / V) (e2 : R1 = (U * 4294967296 + l1) % V) (e3 : Q0 = (R1 * 4294967296 + l0) / V) (e4 : R0 = (R1 * 4294967296 + l0) % V) : Q1 * 4294967296 + Q0 = N / V ∧ R0 = N % V := by
  have d1 := Int.mul_ediv_add_emod (U * 4294967296 + l1) V
  have d2 := Int.mul_ediv_add_emod (R1 * 4294967296 + l0) V
  have d3 := Int.emod_nonneg (R1 * 4294967296 + l0) (show V ≠ 0 by omega)
  have d4 := Int.emod_lt_of_pos (R1 * 4294967296 + l0) hV
  rw [← e1, ← e2] at d1
  rw [← e3, ← e4] at d2
  rw [← e4] at d3 d4
  have k : V * (Q1 * 4294967296 + Q0) = V * Q1 * 4294967296 + V * Q0 := by rw [Int.mul_add, Int.mul_assoc]
  have k2 : N = R0 + V * (Q1 * 4294967296 + Q0) := by rw [k]; omega
  constructor
  · rw [k2, Int.add_mul_ediv_left _ _ (by omega), Int.ediv_eq_zero_of_lt d3 d4]; omega
  · rw [k2, Int.add_mul_emod_self_left, Int.emod_eq_of_lt d3 d4]

/-- Shifted left by s the dividend's digits. -/
theorem shifted (hi lo y p : Int) (hp : 1 ≤ p) (h0 : 0 ≤ hi) (h1 : hi < y) (h2 : 0 ≤ lo) (h3 : lo < 18446744073709551616) :
    (hi * 18446744073709551616 + lo) * p / (y * p) = (hi * 18446744073709551616 + lo) / y ∧ (hi * 18446744073709551616 + lo) * p % (y * p) / p = (hi * 18446744073709551616 + lo) % y := by
  constructor
  · exact Int.mul_ediv_mul_of_pos_left _ _ (by omega)
  · rw [Int.mul_comm _ p, Int.mul_comm y p, Int.mul_emod_mul_of_pos _ _ (by omega)]
    exact Int.mul_ediv_cancel_left _ (by omega)

end Go.Proofs.YtdkabldhkgidjaaDoor
