/-
  The walks of small functions of discount.
-/
import Derived.Test.YtagdibogjlmgmabMul
import Derived.Test.YtagdibogjlmgmabNum
import Derived.Test.YtagdibogjlmgmabGcd
namespace Go.Proofs.Ytagdibogjlmgmab
set_option linter.unusedVariables false
set_option linter.unusedSimpArgs false
open Go.RowKit

set_option maxHeartbeats 400000 in
theorem c_right (n : Int) (w : World) : Calls Try.prog 12 #[.int .i64 n] w fun e w' => e = .returned (.bool (decide (0 ≤ n ∧ n ≤ 1048576))) ∧ w = w' := by
  go_enter Try.func12, Try.ntmps12
  go_wp2
  all_goals (go_ret; exact ⟨ret_b (Bool.eq_iff_iff.2 (by simp; try omega)), rfl⟩)

set_option maxHeartbeats 400000 in
theorem c_based (n : Int) (w : World) : Calls Try.prog 13 #[.int .i64 n] w fun e w' => e = .returned (.bool (decide (n = 360 ∨ n = 365))) ∧ w = w' := by
  go_enter Try.func13, Try.ntmps13
  go_wp2
  all_goals (go_ret; exact ⟨ret_b (Bool.eq_iff_iff.2 (by simp; try omega)), rfl⟩)

set_option maxHeartbeats 400000 in
theorem c_divisor (a b : Int) (w : World) (ha : 0 ≤ a) (hb : 0 ≤ b) : Calls Try.prog 14 #[.int .i64 a, .int .i64 b] w fun e w' => e = .returned (.int .i64 (G a b)) ∧ ∃ k, w' = w.drewN k := by
  go_enter Try.func14, Try.ntmps14
  go_wp2
  go_loopw [0, 1] (fun x y wr => ∃ p q : Int, x = .int .i64 p ∧ y = .int .i64 q ∧ 0 ≤ p ∧ 0 ≤ q ∧ Int.gcd p q = Int.gcd a b ∧ ∃ k, wr = w.drewN k) (fun _ y _ => (intOf y).toNat)
  case atStart => exact ⟨a, b, rfl, rfl, ha, hb, rfl, 0, rfl⟩
  case round =>
    obtain ⟨p, q, rfl, rfl, hp, hq, hg, hw⟩ := hrel
    by_cases h0 : q = 0
    · subst h0
      have hd : G a b = p := by unfold G; rw [← hg]; simp; omega
      go_wp2
      go_ret
      exact ⟨ret_i hd.symm, hw⟩
    · have h1 : 0 < q := by omega
      have hgg : Int.gcd q (p % q) = Int.gcd a b := (gcd_step p q hp hq).trans hg
      have hlt := Int.emod_lt_of_pos p h1
      have hnn := Int.emod_nonneg p h0
      have H := Lib.hid hgg
      clear hgg hg
      go_wp2
      go_quiet (fail)
      go_wp2
      go_roundw
      case rel => exact ⟨q, p % q, rfl, rfl, by omega, hnn, H.out, drew_more hw _⟩
      case measure => simp [intOf]; omega

set_option maxHeartbeats 400000 in
theorem c_times (a b : Int) (w : World) (ha : 0 ≤ a) (ha' : a ≤ 9223372036854775807) (hb : 0 ≤ b) (hb' : b ≤ 9223372036854775807) (hp : a * b ≤ 9223372036854775807) :
    Calls Try.prog 15 #[.int .i64 a, .int .i64 b] w fun e w' => e = .returned (.tuple #[.int .i64 (a * b), .bool true]) ∧ w = w' := by
  have h0 : 0 ≤ a * b := Int.mul_nonneg ha hb
  have e1 : a * b / 18446744073709551616 = 0 := by omega
  have e2 : a * b % 18446744073709551616 = a * b := by omega
  go_enter Try.func15, Try.ntmps15
  go_wp2_with (go_at_call 18; refine (c_mul64 a b _ (by omega) (by omega) (by omega) (by omega)).mono ?_; rw [e1, e2]; rintro e w' ⟨rfl, rfl⟩)
  go_ret2
  exact ⟨rfl, rfl⟩

set_option maxHeartbeats 400000 in
theorem c_times_no (a b : Int) (w : World) (ha : 0 ≤ a) (ha' : a ≤ 9223372036854775807) (hb : 0 ≤ b) (hb' : b ≤ 9223372036854775807) (hp : 9223372036854775807 < a * b) :
    Calls Try.prog 15 #[.int .i64 a, .int .i64 b] w fun e w' => e = .returned (.tuple #[.int .i64 (wrap64 (a * b % 18446744073709551616)), .bool false]) ∧ w = w' := by
  by_cases hz : a * b / 18446744073709551616 = 0
  · have hl : decide (a * b % 18446744073709551616 ≤ 9223372036854775807) = false := by simp; omega
    have hz' : (a * b / 18446744073709551616 == 0) = true := by simpa using hz
    go_enter Try.func15, Try.ntmps15
    go_wp2_with (go_at_call 18; refine (c_mul64 a b _ (by omega) (by omega) (by omega) (by omega)).mono ?_; rintro e w' ⟨rfl, rfl⟩)
    all_goals (go_ret2; exact ⟨rfl, rfl⟩)
  · have hz' : (a * b / 18446744073709551616 == 0) = false := by simpa using hz
    clear hz
    go_enter Try.func15, Try.ntmps15
    go_wp2_with (go_at_call 18; refine (c_mul64 a b _ (by omega) (by omega) (by omega) (by omega)).mono ?_; rintro e w' ⟨rfl, rfl⟩)
    go_ret2
    exact ⟨rfl, rfl⟩


theorem div_le (n d : Int) (h : 0 ≤ n) (hd : 1 ≤ d) : n / d ≤ n := Int.ediv_le_self d h
set_option maxHeartbeats 400000 in
theorem c_near (n d : Int) (w : World) (hn : 0 ≤ n) (hn' : n ≤ 9223372036854775807) (hd : 1 ≤ d) (hd' : d ≤ 2305843009213693952) :
    Calls Try.prog 11 #[.agg #[.int .i64 n, .int .i64 d]] w fun e w' => e = .returned (.int .i64 (near n d)) ∧ Below w.heap.size w w' := by
  have h1 := Int.emod_nonneg n (show d ≠ 0 by omega)
  have h2 := Int.emod_lt_of_pos n (show 0 < d by omega)
  have h3 := div_le n d hn hd
  have h4 := Int.ediv_nonneg hn (show 0 ≤ d by omega)
  by_cases hx : d ≤ n % d * 2
  · have hy : n / d + 1 ≤ 9223372036854775807 := by
      by_cases h1' : d = 1
      · subst h1'; simp at hx
      · have : n / d ≤ n / 2 := by
          have := Int.mul_ediv_add_emod n d
          have h5 : 2 * (n / d) ≤ d * (n / d) := Int.mul_le_mul_of_nonneg_right (by omega) h4
          omega
        omega
    go_enter Try.func11, Try.ntmps11
    go_wp2
    go_quiet (fail)
    go_wp2
    go_ret
    exact ⟨ret_i (by unfold near; rw [if_pos hx]), below_drewN ((Below.refl _ _).alloc (Nat.le_refl _) _) _⟩
  · go_enter Try.func11, Try.ntmps11
    go_wp2
    go_quiet (fail)
    go_wp2
    go_ret
    exact ⟨ret_i (by unfold near; rw [if_neg (by omega)]), below_drewN ((Below.refl _ _).alloc (Nat.le_refl _) _) _⟩

end Go.Proofs.Ytagdibogjlmgmab
