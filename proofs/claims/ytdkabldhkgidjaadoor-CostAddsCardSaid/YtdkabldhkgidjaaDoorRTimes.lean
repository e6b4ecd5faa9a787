/-
  The reference's Times: its walk.
-/
import Derived.Test.YtdkabldhkgidjaaDoorMem
import Derived.Test.YtdkabldhkgidjaaDoorRows
import Derived.Test.YtdkabldhkgidjaaDoorRTimesNum
namespace Go.Proofs.YtdkabldhkgidjaaDoor
set_option linter.unusedVariables false
set_option linter.unusedSimpArgs false
open Go.RowKit

theorem and_one (x : Int) (h : 0 ≤ x) (h2 : x ≤ 9223372036854775807) : bits BinOp.and IntKind.i64 x 1 = x % 2 := by
  obtain ⟨n, rfl⟩ := Int.eq_ofNat_of_zero_le h
  have h1 : (BitVec.ofInt 64 (n : Int)).toNat = n := by
    rw [BitVec.ofInt_natCast, BitVec.toNat_ofNat]; exact Nat.mod_eq_of_lt (by omega)
  have h3 : (BitVec.ofInt 64 (1 : Int)).toNat = 1 := by decide
  show IntKind.i64.wrap ((BitVec.ofInt 64 (n : Int) &&& BitVec.ofInt 64 (1 : Int)).toNat : Int) = _
  rw [BitVec.toNat_and, h1, h3, Nat.and_one_is_mod]
  exact (IntWalk.i64_in _ (by omega)).trans (by omega)
theorem ret_qr {a b c d : Int} (h1 : a = c) (h2 : b = d) : Ending.returned (.tuple #[.int .i64 a, .int .i64 b]) = .returned (.tuple #[.int .i64 c, .int .i64 d]) := by rw [h1, h2]

set_option maxHeartbeats 1600000 in
theorem c_rtimes (a b c : Int) (w : World) (ha : 0 ≤ a) (ha2 : a ≤ 9223372036854775807) (hb : 0 ≤ b) (hb2 : b ≤ 9223372036854775807) (hc : 1 ≤ c) (hc2 : c ≤ 4611686018427387904) (hq : a * b / c ≤ 9223372036854775807) :
    Calls Tryd.prog 55 #[.int .i64 a, .int .i64 b, .int .i64 c] w fun e w' => e = .returned (.tuple #[.int .i64 (a * b / c), .int .i64 (a * b % c)]) ∧ w = w' := by
  go_enter Tryd.func55, Tryd.ntmps55
  go_wp2
  go_loop [8, 9, 10] (fun q r i => ∃ k : Nat, k ≤ 63 ∧ i = .int .i64 ((k : Int) - 1) ∧ q = .int .i64 (a / 2 ^ k * b / c) ∧ r = .int .i64 (a / 2 ^ k * b % c)) (fun _ _ i => (intOf i + 1).toNat)
  case atStart => 
    have h0 := pow_div_zero a ha ha2
    exact ⟨63, by omega, rfl, by rw [h0]; simp, by rw [h0]; simp⟩
  case round =>
    obtain ⟨k, hk, rfl, rfl, rfl⟩ := hrel
    rcases k with _ | m
    · go_wp2
      go_ret2
      exact ⟨ret_qr (by simp) (by simp), rfl⟩
    · have e0 : ((m + 1 : Nat) : Int) - 1 = m := by omega
      rw [e0]
      have hm : (m : Int) ≤ 62 := by omega
      have D := t_dbl (a / 2 ^ (m + 1)) b c (by omega)
      have B := t_bit (a / 2 ^ (m + 1)) b c (by omega)
      have P := part_le a b c m ha hb (by omega)
      have P1 := part_le a b c (m + 1) ha hb (by omega)
      have hbit := bit_more a m
      have hbb := and_one (a / 2 ^ m) (Int.ediv_nonneg ha (Int.pow_nonneg (by omega))) (by have := Int.ediv_le_self (2 ^ m) ha; omega)
      have r0 := Int.emod_nonneg (a / 2 ^ (m + 1) * b) (show c ≠ 0 by omega)
      have r1 := Int.emod_lt_of_pos (a / 2 ^ (m + 1) * b) (show 0 < c by omega)
      have s0 := Int.emod_nonneg b (show c ≠ 0 by omega)
      have s1 := Int.emod_lt_of_pos b (show 0 < c by omega)
      have s2 := Int.ediv_nonneg hb (show 0 ≤ c by omega)
      have hrel2 : ∀ q r : Int, q = a / 2 ^ m * b / c → r = a / 2 ^ m * b % c → ∃ k : Nat, k ≤ 63 ∧ Value.int .i64 ((m : Int) - 1) = .int .i64 ((k : Int) - 1) ∧ Value.int .i64 q = .int .i64 (a / 2 ^ k * b / c) ∧ Value.int .i64 r = .int .i64 (a / 2 ^ k * b % c) := fun q r hq hr => ⟨m, by omega, rfl, by rw [hq], by rw [hr]⟩
      generalize a / 2 ^ (m + 1) = A at *
      have hbit2 : a / 2 ^ m % 2 = 0 ∨ a / 2 ^ m % 2 = 1 := by omega
      have HR := Lib.hid hrel2
      clear hrel2
      rcases hbit2 with h2 | h2
      · rw [h2] at hbit hbb
        have hX2 : a / 2 ^ m = 2 * A := by omega
        rw [← hX2] at D
        obtain ⟨D1, D2⟩ := D
        clear B hbit h2 hX2
        have HB := Lib.hid hbb
        clear hbb
        generalize a / 2 ^ m * b / c = q1 at *
        generalize a / 2 ^ m * b % c = v1 at *
        generalize A * b / c = q0 at *
        generalize A * b % c = v0 at *
        generalize a * b / c = qa at *
        have hbb := HB.out
        by_cases h1 : c ≤ 2 * v0
        all_goals
          first | rw [if_pos h1] at D1 D2 | rw [if_neg h1] at D1 D2
          have HD1 := Lib.hid D1
          have HD2 := Lib.hid D2
          have g1 : q1 ≤ 9223372036854775807 := by omega
          have g2 : 2 * q0 ≤ q1 := by omega
          have g3 : c ≤ 2 * v0 → 2 * q0 + 1 ≤ 9223372036854775807 := by omega
          have g4 : 2 * q0 ≤ 9223372036854775807 := by omega
          clear D1 D2 g3
          try have g3 : 2 * q0 + 1 ≤ 9223372036854775807 := by have := HD1.out; omega
          go_wp2
          go_round
          case rel => exact HR.out _ _ (by have := HD1.out; omega) (by have := HD2.out; omega)
          case measure => simp [intOf]
      · rw [h2] at hbit hbb
        have hX2 : a / 2 ^ m = 2 * A + 1 := by omega
        rw [← hX2] at B
        obtain ⟨D1, D2⟩ := D
        obtain ⟨B1, B2⟩ := B
        clear hbit h2 hX2
        have HB := Lib.hid hbb
        clear hbb
        have t0 := Int.emod_nonneg (2 * A * b) (show c ≠ 0 by omega)
        have t1 := Int.emod_lt_of_pos (2 * A * b) (show 0 < c by omega)
        generalize a / 2 ^ m * b / c = q1 at *
        generalize a / 2 ^ m * b % c = v1 at *
        generalize 2 * A * b / c = q2 at *
        generalize 2 * A * b % c = v2 at *
        generalize A * b / c = q0 at *
        generalize A * b % c = v0 at *
        generalize a * b / c = qa at *
        have hbb := HB.out
        by_cases h1 : c ≤ 2 * v0
        · rw [if_pos h1] at D1 D2
          by_cases h3 : c ≤ 2 * v0 - c + b % c
          all_goals
            first | rw [if_pos (by omega)] at B1 B2 | rw [if_neg (by omega)] at B1 B2
            have HD1 := Lib.hid D1
            have HD2 := Lib.hid D2
            have HB1 := Lib.hid B1
            have HB2 := Lib.hid B2
            have g0 : 2 * q0 ≤ 9223372036854775807 := by omega
            have g1 : 2 * q0 + 1 ≤ 9223372036854775807 := by omega
            have g2 : 2 * q0 + 1 + b / c ≤ 9223372036854775807 := by omega
            try have g3 : 2 * q0 + 1 + b / c + 1 ≤ 9223372036854775807 := by omega
            clear D1 D2 B1 B2 t0 t1
            go_wp2
            go_round
            case rel => exact HR.out _ _ (by have := HD1.out; have := HB1.out; omega) (by have := HD2.out; have := HB2.out; omega)
            case measure => simp [intOf]
        · rw [if_neg h1] at D1 D2
          by_cases h3 : c ≤ 2 * v0 + b % c
          all_goals
            first | rw [if_pos (by omega)] at B1 B2 | rw [if_neg (by omega)] at B1 B2
            have HD1 := Lib.hid D1
            have HD2 := Lib.hid D2
            have HB1 := Lib.hid B1
            have HB2 := Lib.hid B2
            have g0 : 2 * q0 ≤ 9223372036854775807 := by omega
            have g1 : 2 * q0 ≤ 9223372036854775807 := by omega
            have g2 : 2 * q0 + b / c ≤ 9223372036854775807 := by omega
            try have g3 : 2 * q0 + b / c + 1 ≤ 9223372036854775807 := by omega
            clear D1 D2 B1 B2 t0 t1
            go_wp2
            go_round
            case rel => exact HR.out _ _ (by have := HD1.out; have := HB1.out; omega) (by have := HD2.out; have := HB2.out; omega)
            case measure => simp [intOf]

end Go.Proofs.YtdkabldhkgidjaaDoor
