/-
  The walk of math/bits.Div64: quotient and remainder of hi * 2^64 + lo by y, where hi < y.
-/
import Derived.Test.YtdkabldhkgidjaaDoorMul
import Derived.Test.YtdkabldhkgidjaaDoorNum
import Derived.Test.YtdkabldhkgidjaaDoorDiv
namespace Go.Proofs.YtdkabldhkgidjaaDoor
set_option linter.unusedVariables false
set_option linter.unusedSimpArgs false
open Go.RowKit

set_option maxHeartbeats 3200000 in
set_option maxRecDepth 100000 in
theorem c_div_core (hi lo y s V v1 v0 U L l1 l0 r1 Q1 R1 r0 Q0 R0 : Int) (w : World) (h1 : 1 ≤ hi) (h2 : hi < y) (h3 : y < 18446744073709551616) (h4 : 0 ≤ lo) (h5 : lo < 18446744073709551616)
    (hs : ∀ w, Calls Tryd.prog 67 #[.int .u64 y] w fun e w' => e = .returned (.int .i64 s) ∧ w = w') (hs0 : 0 ≤ s) (hs1 : s ≤ 63)
    (e1 : IntKind.u64.wrap (y * 2 ^ s.toNat) = V) (e2 : V / 4294967296 = v1) (e3 : bits BinOp.and IntKind.u64 V 4294967295 = v0)
    (e4 : bits BinOp.or IntKind.u64 (IntKind.u64.wrap (hi * 2 ^ s.toNat)) (lo / 2 ^ (64 - s).toNat) = U) (e5 : IntKind.u64.wrap (lo * 2 ^ s.toNat) = L) (e6 : L / 4294967296 = l1) (e7 : bits BinOp.and IntKind.u64 L 4294967295 = l0)
    (a1 : 2147483648 ≤ v1) (a2 : v1 < 4294967296) (a3 : 0 ≤ v0) (a4 : v0 < 4294967296) (a5 : 0 ≤ U) (a6 : U < V) (a6' : V < 18446744073709551616) (a6l : 0 ≤ L) (a6l' : L < 18446744073709551616) (a7 : 0 ≤ l1) (a8 : l1 < 4294967296) (a9 : 0 ≤ l0) (a10 : l0 < 4294967296)
    (hV : V = v1 * 4294967296 + v0) (hQ1 : Q1 = (U * 4294967296 + l1) / V) (hQ0 : Q0 = (R1 * 4294967296 + l0) / V)
    (e8 : IntKind.u64.wrap (IntKind.u64.wrap (IntKind.u64.wrap (U * 4294967296) + l1) - IntKind.u64.wrap (Q1 * V)) = R1)
    (e9 : IntKind.u64.wrap (IntKind.u64.wrap (IntKind.u64.wrap (R1 * 4294967296) + l0) - IntKind.u64.wrap (Q0 * V)) = R0)
    (b1 : 0 ≤ R1) (b2 : R1 < V) :
    Calls Tryd.prog 49 #[.int .u64 hi, .int .u64 lo, .int .u64 y] w fun e w' => e = .returned (.tuple #[.int .u64 (Q1 * 4294967296 + Q0), .int .u64 (R0 / 2 ^ s.toNat)]) ∧ w = w' := by
  have s1 := digit_start U l1 v1 v0 V Q1 hV a1 a2 a3 a4 a5 a6 a7 a8 hQ1
  have s0 := digit_start R1 l0 v1 v0 V Q0 hV a1 a2 a3 a4 b1 b2 a9 a10 hQ0
  have HV := Lib.hid hV
  have HQ1 := Lib.hid hQ1
  have HQ0 := Lib.hid hQ0
  have HS := Lib.hid hs
  clear hV hQ1 hQ0 hs
  obtain ⟨s11, s12, s13, s14, s15, s16, s17⟩ := s1
  obtain ⟨s01, s02, s03, s04, s05, s06, s07⟩ := s0
  have d1 : 0 ≤ U / v1 := by omega
  have d0 : 0 ≤ R1 / v1 := by omega
  go_enter Tryd.func49, Tryd.ntmps49
  go_wp2_with (go_at_call 67; refine (HS.out _).mono ?_; rintro e w' ⟨rfl, rfl⟩)
  go_loop [15, 16] (fun x y => ∃ a b : Int, x = .int .u64 a ∧ y = .int .u64 b ∧ Q1 ≤ a ∧ a ≤ 4294967297 ∧ 0 ≤ b ∧ b < 4294967296 ∧ Hid (b = U - a * v1)) (fun x _ => (intOf x).toNat)
  case atStart => exact ⟨_, _, rfl, rfl, by omega, by omega, by omega, by omega, rfl⟩
  case round =>
    obtain ⟨a, b, rfl, rfl, m1, m2, m3, m4, m5⟩ := hrel
    have m6 : Q1 ≤ a - 1 ∨ a = Q1 := by omega
    by_cases mb : 4294967296 ≤ a
    · clear m6
      have mq : Q1 ≤ a - 1 := by omega
      by_cases mc : 4294967296 ≤ b + v1
      · have me : a - 1 = Q1 := digit_done U l1 v1 v0 V Q1 (a - 1) HV.out a1 a3 (by omega) (by omega) HQ1.out mq (by
          have k1 : (a - 1) * v0 ≤ 4294967296 * 4294967295 := Int.mul_le_mul (by omega) (by omega) (by omega) (by omega)
          have k2 : (a - 1) * v1 = a * v1 - v1 := by rw [Int.sub_mul, Int.one_mul]
          have k3 := m5.out
          omega)
        obtain rfl : a = Q1 + 1 := by omega
        clear me
        go_wp2
        go_loop [18, 16] (fun x y => ∃ a b : Int, x = .int .u64 a ∧ y = .int .u64 b ∧ Q0 ≤ a ∧ a ≤ 4294967297 ∧ 0 ≤ b ∧ b < 4294967296 ∧ Hid (b = R1 - a * v1)) (fun x _ => (intOf x).toNat)
        case atStart => exact ⟨_, _, rfl, rfl, by omega, by omega, by omega, by omega, rfl⟩
        case round =>
          obtain ⟨a, b, rfl, rfl, n1, n2, n3, n4, n5⟩ := hrel
          have n6 : Q0 ≤ a - 1 ∨ a = Q0 := by omega
          by_cases nb : 4294967296 ≤ a
          · clear n6
            have nq : Q0 ≤ a - 1 := by omega
            by_cases nc : 4294967296 ≤ b + v1
            · have ne : a - 1 = Q0 := digit_done R1 l0 v1 v0 V Q0 (a - 1) HV.out a1 a3 (by omega) (by omega) HQ0.out nq (by
                have k1 : (a - 1) * v0 ≤ 4294967296 * 4294967295 := Int.mul_le_mul (by omega) (by omega) (by omega) (by omega)
                have k2 : (a - 1) * v1 = a * v1 - v1 := by rw [Int.sub_mul, Int.one_mul]
                have k3 := n5.out
                omega)
              obtain rfl : a = Q0 + 1 := by omega
              clear ne
              go_wp2
              go_ret2
              exact ⟨rfl, rfl⟩
            · go_wp2
              go_round
              case rel => exact ⟨a - 1, b + v1, rfl, rfl, nq, by omega, by omega, by omega, by
                have k2 : (a - 1) * v1 = a * v1 - v1 := by rw [Int.sub_mul, Int.one_mul]
                have k3 := n5.out
                show b + v1 = R1 - (a - 1) * v1
                omega⟩
              case measure => simp [intOf]; omega
          · have np0 : 0 ≤ a * v0 := Int.mul_nonneg (by omega) a3
            have np1 : a * v0 ≤ 4294967295 * 4294967295 := Int.mul_le_mul (by omega) (by omega) (by omega) (by omega)
            by_cases nt : 4294967296 * b + l0 < a * v0
            · clear n6
              have nq : Q0 ≤ a - 1 := by have k := digit_more R1 l0 v1 v0 V Q0 a HV.out a1 a3 (by omega) (by omega) HQ0.out (by rw [← n5.out]; exact nt); omega
              by_cases nc : 4294967296 ≤ b + v1
              · have ne : a - 1 = Q0 := digit_done R1 l0 v1 v0 V Q0 (a - 1) HV.out a1 a3 (by omega) (by omega) HQ0.out nq (by
                  have k1 : (a - 1) * v0 ≤ 4294967296 * 4294967295 := Int.mul_le_mul (by omega) (by omega) (by omega) (by omega)
                  have k2 : (a - 1) * v1 = a * v1 - v1 := by rw [Int.sub_mul, Int.one_mul]
                  have k3 := n5.out
                  omega)
                obtain rfl : a = Q0 + 1 := by omega
                clear ne
                go_wp2
                go_ret2
                exact ⟨rfl, rfl⟩
              · go_wp2
                go_round
                case rel => exact ⟨a - 1, b + v1, rfl, rfl, nq, by omega, by omega, by omega, by
                  have k2 : (a - 1) * v1 = a * v1 - v1 := by rw [Int.sub_mul, Int.one_mul]
                  have k3 := n5.out
                  show b + v1 = R1 - (a - 1) * v1
                  omega⟩
                case measure => simp [intOf]; omega
            · have ne : a = Q0 := digit_done R1 l0 v1 v0 V Q0 a HV.out a1 a3 (by omega) (by omega) HQ0.out n1 (by rw [← n5.out]; omega)
              subst ne
              clear n6
              go_wp2
              go_ret2
              exact ⟨rfl, rfl⟩
      · go_wp2
        go_round
        case rel => exact ⟨a - 1, b + v1, rfl, rfl, mq, by omega, by omega, by omega, by
          have k2 : (a - 1) * v1 = a * v1 - v1 := by rw [Int.sub_mul, Int.one_mul]
          have k3 := m5.out
          show b + v1 = U - (a - 1) * v1
          omega⟩
        case measure => simp [intOf]; omega
    · have mp0 : 0 ≤ a * v0 := Int.mul_nonneg (by omega) a3
      have mp1 : a * v0 ≤ 4294967295 * 4294967295 := Int.mul_le_mul (by omega) (by omega) (by omega) (by omega)
      by_cases mt : 4294967296 * b + l1 < a * v0
      · clear m6
        have mq : Q1 ≤ a - 1 := by have k := digit_more U l1 v1 v0 V Q1 a HV.out a1 a3 (by omega) (by omega) HQ1.out (by rw [← m5.out]; exact mt); omega
        by_cases mc : 4294967296 ≤ b + v1
        · have me : a - 1 = Q1 := digit_done U l1 v1 v0 V Q1 (a - 1) HV.out a1 a3 (by omega) (by omega) HQ1.out mq (by
            have k1 : (a - 1) * v0 ≤ 4294967296 * 4294967295 := Int.mul_le_mul (by omega) (by omega) (by omega) (by omega)
            have k2 : (a - 1) * v1 = a * v1 - v1 := by rw [Int.sub_mul, Int.one_mul]
            have k3 := m5.out
            omega)
          obtain rfl : a = Q1 + 1 := by omega
          clear me
          go_wp2
          go_loop [18, 16] (fun x y => ∃ a b : Int, x = .int .u64 a ∧ y = .int .u64 b ∧ Q0 ≤ a ∧ a ≤ 4294967297 ∧ 0 ≤ b ∧ b < 4294967296 ∧ Hid (b = R1 - a * v1)) (fun x _ => (intOf x).toNat)
          case atStart => exact ⟨_, _, rfl, rfl, by omega, by omega, by omega, by omega, rfl⟩
          case round =>
            obtain ⟨a, b, rfl, rfl, n1, n2, n3, n4, n5⟩ := hrel
            have n6 : Q0 ≤ a - 1 ∨ a = Q0 := by omega
            by_cases nb : 4294967296 ≤ a
            · clear n6
              have nq : Q0 ≤ a - 1 := by omega
              by_cases nc : 4294967296 ≤ b + v1
              · have ne : a - 1 = Q0 := digit_done R1 l0 v1 v0 V Q0 (a - 1) HV.out a1 a3 (by omega) (by omega) HQ0.out nq (by
                  have k1 : (a - 1) * v0 ≤ 4294967296 * 4294967295 := Int.mul_le_mul (by omega) (by omega) (by omega) (by omega)
                  have k2 : (a - 1) * v1 = a * v1 - v1 := by rw [Int.sub_mul, Int.one_mul]
                  have k3 := n5.out
                  omega)
                obtain rfl : a = Q0 + 1 := by omega
                clear ne
                go_wp2
                go_ret2
                exact ⟨rfl, rfl⟩
              · go_wp2
                go_round
                case rel => exact ⟨a - 1, b + v1, rfl, rfl, nq, by omega, by omega, by omega, by
                  have k2 : (a - 1) * v1 = a * v1 - v1 := by rw [Int.sub_mul, Int.one_mul]
                  have k3 := n5.out
                  show b + v1 = R1 - (a - 1) * v1
                  omega⟩
                case measure => simp [intOf]; omega
            · have np0 : 0 ≤ a * v0 := Int.mul_nonneg (by omega) a3
              have np1 : a * v0 ≤ 4294967295 * 4294967295 := Int.mul_le_mul (by omega) (by omega) (by omega) (by omega)
              by_cases nt : 4294967296 * b + l0 < a * v0
              · clear n6
                have nq : Q0 ≤ a - 1 := by have k := digit_more R1 l0 v1 v0 V Q0 a HV.out a1 a3 (by omega) (by omega) HQ0.out (by rw [← n5.out]; exact nt); omega
                by_cases nc : 4294967296 ≤ b + v1
                · have ne : a - 1 = Q0 := digit_done R1 l0 v1 v0 V Q0 (a - 1) HV.out a1 a3 (by omega) (by omega) HQ0.out nq (by
                    have k1 : (a - 1) * v0 ≤ 4294967296 * 4294967295 := Int.mul_le_mul (by omega) (by omega) (by omega) (by omega)
                    have k2 : (a - 1) * v1 = a * v1 - v1 := by rw [Int.sub_mul, Int.one_mul]
                    have k3 := n5.out
                    omega)
                  obtain rfl : a = Q0 + 1 := by omega
                  clear ne
                  go_wp2
                  go_ret2
                  exact ⟨rfl, rfl⟩
                · go_wp2
                  go_round
                  case rel => exact ⟨a - 1, b + v1, rfl, rfl, nq, by omega, by omega, by omega, by
                    have k2 : (a - 1) * v1 = a * v1 - v1 := by rw [Int.sub_mul, Int.one_mul]
                    have k3 := n5.out
                    show b + v1 = R1 - (a - 1) * v1
                    omega⟩
                  case measure => simp [intOf]; omega
              · have ne : a = Q0 := digit_done R1 l0 v1 v0 V Q0 a HV.out a1 a3 (by omega) (by omega) HQ0.out n1 (by rw [← n5.out]; omega)
                subst ne
                clear n6
                go_wp2
                go_ret2
                exact ⟨rfl, rfl⟩
        · go_wp2
          go_round
          case rel => exact ⟨a - 1, b + v1, rfl, rfl, mq, by omega, by omega, by omega, by
            have k2 : (a - 1) * v1 = a * v1 - v1 := by rw [Int.sub_mul, Int.one_mul]
            have k3 := m5.out
            show b + v1 = U - (a - 1) * v1
            omega⟩
          case measure => simp [intOf]; omega
      · have me : a = Q1 := digit_done U l1 v1 v0 V Q1 a HV.out a1 a3 (by omega) (by omega) HQ1.out m1 (by rw [← m5.out]; omega)
        subst me
        clear m6
        go_wp2
        go_loop [18, 16] (fun x y => ∃ a b : Int, x = .int .u64 a ∧ y = .int .u64 b ∧ Q0 ≤ a ∧ a ≤ 4294967297 ∧ 0 ≤ b ∧ b < 4294967296 ∧ Hid (b = R1 - a * v1)) (fun x _ => (intOf x).toNat)
        case atStart => exact ⟨_, _, rfl, rfl, by omega, by omega, by omega, by omega, rfl⟩
        case round =>
          obtain ⟨a, b, rfl, rfl, n1, n2, n3, n4, n5⟩ := hrel
          have n6 : Q0 ≤ a - 1 ∨ a = Q0 := by omega
          by_cases nb : 4294967296 ≤ a
          · clear n6
            have nq : Q0 ≤ a - 1 := by omega
            by_cases nc : 4294967296 ≤ b + v1
            · have ne : a - 1 = Q0 := digit_done R1 l0 v1 v0 V Q0 (a - 1) HV.out a1 a3 (by omega) (by omega) HQ0.out nq (by
                have k1 : (a - 1) * v0 ≤ 4294967296 * 4294967295 := Int.mul_le_mul (by omega) (by omega) (by omega) (by omega)
                have k2 : (a - 1) * v1 = a * v1 - v1 := by rw [Int.sub_mul, Int.one_mul]
                have k3 := n5.out
                omega)
              obtain rfl : a = Q0 + 1 := by omega
              clear ne
              go_wp2
              go_ret2
              exact ⟨rfl, rfl⟩
            · go_wp2
              go_round
              case rel => exact ⟨a - 1, b + v1, rfl, rfl, nq, by omega, by omega, by omega, by
                have k2 : (a - 1) * v1 = a * v1 - v1 := by rw [Int.sub_mul, Int.one_mul]
                have k3 := n5.out
                show b + v1 = R1 - (a - 1) * v1
                omega⟩
              case measure => simp [intOf]; omega
          · have np0 : 0 ≤ a * v0 := Int.mul_nonneg (by omega) a3
            have np1 : a * v0 ≤ 4294967295 * 4294967295 := Int.mul_le_mul (by omega) (by omega) (by omega) (by omega)
            by_cases nt : 4294967296 * b + l0 < a * v0
            · clear n6
              have nq : Q0 ≤ a - 1 := by have k := digit_more R1 l0 v1 v0 V Q0 a HV.out a1 a3 (by omega) (by omega) HQ0.out (by rw [← n5.out]; exact nt); omega
              by_cases nc : 4294967296 ≤ b + v1
              · have ne : a - 1 = Q0 := digit_done R1 l0 v1 v0 V Q0 (a - 1) HV.out a1 a3 (by omega) (by omega) HQ0.out nq (by
                  have k1 : (a - 1) * v0 ≤ 4294967296 * 4294967295 := Int.mul_le_mul (by omega) (by omega) (by omega) (by omega)
                  have k2 : (a - 1) * v1 = a * v1 - v1 := by rw [Int.sub_mul, Int.one_mul]
                  have k3 := n5.out
                  omega)
                obtain rfl : a = Q0 + 1 := by omega
                clear ne
                go_wp2
                go_ret2
                exact ⟨rfl, rfl⟩
              · go_wp2
                go_round
                case rel => exact ⟨a - 1, b + v1, rfl, rfl, nq, by omega, by omega, by omega, by
                  have k2 : (a - 1) * v1 = a * v1 - v1 := by rw [Int.sub_mul, Int.one_mul]
                  have k3 := n5.out
                  show b + v1 = R1 - (a - 1) * v1
                  omega⟩
                case measure => simp [intOf]; omega
            · have ne : a = Q0 := digit_done R1 l0 v1 v0 V Q0 a HV.out a1 a3 (by omega) (by omega) HQ0.out n1 (by rw [← n5.out]; omega)
              subst ne
              clear n6
              go_wp2
              go_ret2
              exact ⟨rfl, rfl⟩

theorem pow_split (s : Int) (h0 : 0 ≤ s) (h1 : s ≤ 63) : (2 : Int) ^ (64 - s).toNat * 2 ^ s.toNat = 18446744073709551616 := by
  rw [← Int.pow_add, show (64 - s).toNat + s.toNat = 64 from by omega]
  decide
theorem pow_pos' (n : Nat) : (1 : Int) ≤ 2 ^ n := by
  have : (0 : Int) < 2 ^ n := Int.pow_pos (by decide)
  omega

set_option maxRecDepth 100000 in
theorem c_div64_hi (hi lo y : Int) (w : World) (h1 : 1 ≤ hi) (h2 : hi < y) (h3 : y < 18446744073709551616) (h4 : 0 ≤ lo) (h5 : lo < 18446744073709551616) :
    Calls Tryd.prog 49 #[.int .u64 hi, .int .u64 lo, .int .u64 y] w fun e w' => e = .returned (.tuple #[.int .u64 ((hi * 18446744073709551616 + lo) / y), .int .u64 ((hi * 18446744073709551616 + lo) % y)]) ∧ w = w' := by
  obtain ⟨s0, s1, s2, s3⟩ := shift_bd y (by omega) h3
  have hs := fun w => Tryd.bits_LeadingZeros64 y w (by omega) (by omega)
  generalize (64 - (Lib.bitLen y.toNat : Int)) = s at *
  have hs' : ∀ w, Calls Tryd.prog 67 #[.int .u64 y] w fun e w' => e = .returned (.int .i64 s) ∧ w = w' := fun w => (hs w).mono fun e w' h => ⟨h.1, h.2.symm⟩
  have hp := pow_pos' s.toNat
  have hq := pow_pos' (64 - s).toNat
  have hpq := pow_split s s0 s1
  have hp63 : (2 : Int) ^ s.toNat ≤ 18446744073709551616 := by
    rw [← hpq]
    have : 1 * (2 : Int) ^ s.toNat ≤ 2 ^ (64 - s).toNat * 2 ^ s.toNat := Int.mul_le_mul_of_nonneg_right hq (by omega)
    omega
  have hip : hi * 2 ^ s.toNat < y * 2 ^ s.toNat := Int.mul_lt_mul_of_pos_right h2 (by omega)
  have hip0 : 0 ≤ hi * 2 ^ s.toNat := Int.mul_nonneg (by omega) (by omega)
  have hlo : lo / 2 ^ (64 - s).toNat < 2 ^ s.toNat := by
    apply Int.ediv_lt_of_lt_mul (by omega)
    rw [Int.mul_comm, hpq]
    exact h5
  have hlo0 : 0 ≤ lo / 2 ^ (64 - s).toNat := Int.ediv_nonneg h4 (by omega)
  have hlo1 : lo * 2 ^ s.toNat / 18446744073709551616 = lo / 2 ^ (64 - s).toNat := by
    rw [← hpq]
    exact Int.mul_ediv_mul_of_pos_left _ _ (by omega)
  have hor : bits BinOp.or IntKind.u64 (hi * 2 ^ s.toNat) (lo / 2 ^ (64 - s).toNat) = hi * 2 ^ s.toNat + lo / 2 ^ (64 - s).toNat :=
    bits_join .u64 64 (by decide) (fun n a b => wraps_u64 n a b) s.toNat _ _ hip0 (Int.mul_emod_left _ _) (by omega) hlo0 hlo (by omega)
  have hsh := shifted hi lo y (2 ^ s.toNat) hp (by omega) h2 h4 h5
  have hN : (hi * 18446744073709551616 + lo) * 2 ^ s.toNat = (hi * 2 ^ s.toNat + lo / 2 ^ (64 - s).toNat) * 18446744073709551616 + lo * 2 ^ s.toNat % 18446744073709551616 / 4294967296 * 4294967296 + lo * 2 ^ s.toNat % 18446744073709551616 % 4294967296 := by
    have a1 : (hi * 18446744073709551616 + lo) * 2 ^ s.toNat = hi * 2 ^ s.toNat * 18446744073709551616 + lo * 2 ^ s.toNat := by rw [Int.add_mul, Int.mul_right_comm]
    rw [a1, ← hlo1]
    omega
  have hUV : hi * 2 ^ s.toNat + lo / 2 ^ (64 - s).toNat < y * 2 ^ s.toNat := by
    have a1 : (hi + 1) * 2 ^ s.toNat ≤ y * 2 ^ s.toNat := Int.mul_le_mul_of_nonneg_right (by omega) (by omega)
    rw [Int.add_mul] at a1
    omega
  have mask (x : Int) (h0 : 0 ≤ x) (h1 : x < 18446744073709551616) : bits BinOp.and IntKind.u64 x 4294967295 = x % 4294967296 := bits_mask .u64 64 (by decide) (fun n a b => wraps_u64 n a b) 32 (by decide) x h0 (by omega)
  generalize hV : y * 2 ^ s.toNat = V at *
  generalize hU : hi * 2 ^ s.toNat + lo / 2 ^ (64 - s).toNat = U at *
  generalize hL : lo * 2 ^ s.toNat = L at *
  have hLb : 0 ≤ L % 18446744073709551616 ∧ L % 18446744073709551616 < 18446744073709551616 := by omega
  generalize hLm : L % 18446744073709551616 = M at *
  have r1 := digit_rest U (M / 4294967296) V _ (by omega) s3 rfl
  have b1 := Int.emod_nonneg (U * 4294967296 + M / 4294967296) (show V ≠ 0 by omega)
  have b2 := Int.emod_lt_of_pos (U * 4294967296 + M / 4294967296) (show 0 < V by omega)
  have tw := two_digits _ V _ _ _ _ (M / 4294967296) (M % 4294967296) U hN (by omega) (by omega) (by omega) (by omega) (by omega) rfl rfl rfl rfl
  generalize hR1 : (U * 4294967296 + M / 4294967296) % V = R1 at *
  have r0 := digit_rest R1 (M % 4294967296) V _ (by omega) s3 rfl
  have h := c_div_core hi lo y s V (V / 4294967296) (V % 4294967296) U M (M / 4294967296) (M % 4294967296) 0 _ R1 0 _ _ w h1 h2 h3 h4 h5 hs' s0 s1 (by rw [hV, wrap_mod]; omega) rfl (mask V (by omega) s3)
    (by rw [wrap_mod, Int.emod_eq_of_lt hip0 (by omega), hor]) (by rw [hL, wrap_mod, hLm]) rfl (mask M hLb.1 hLb.2) (by omega) (by omega) (by omega) (by omega) (by omega) hUV s3 hLb.1 hLb.2 (by omega) (by omega) (by omega) (by omega) (by omega) rfl rfl r1 r0 b1 b2
  rw [tw.1, tw.2, hsh.1, hsh.2] at h
  exact h

set_option maxHeartbeats 400000 in
theorem c_div64_lo (lo y : Int) (w : World) (h2 : 0 < y) (h3 : y < 18446744073709551616) (h4 : 0 ≤ lo) (h5 : lo < 18446744073709551616) :
    Calls Tryd.prog 49 #[.int .u64 0, .int .u64 lo, .int .u64 y] w fun e w' => e = .returned (.tuple #[.int .u64 (lo / y), .int .u64 (lo % y)]) ∧ ∃ k, w' = w.drewN k := by
  have d := div_bd lo y h4 (by omega)
  go_enter Tryd.func49, Tryd.ntmps49
  go_wp2
  go_quiet (fail)
  go_wp2
  go_ret2
  exact ⟨rfl, _, rfl⟩

/-- math/bits.Div64, where the divisor is greater than the high word. -/
theorem c_div64 (hi lo y : Int) (w : World) (h0 : 0 ≤ hi) (h2 : hi < y) (h3 : y < 18446744073709551616) (h4 : 0 ≤ lo) (h5 : lo < 18446744073709551616) :
    Calls Tryd.prog 49 #[.int .u64 hi, .int .u64 lo, .int .u64 y] w fun e w' => e = .returned (.tuple #[.int .u64 ((hi * 18446744073709551616 + lo) / y), .int .u64 ((hi * 18446744073709551616 + lo) % y)]) ∧ ∃ k, w' = w.drewN k := by
  by_cases h : hi = 0
  · subst h
    have := c_div64_lo lo y w h2 h3 h4 h5
    simpa using this
  · exact (c_div64_hi hi lo y w (by omega) h2 h3 h4 h5).mono fun e w' h => ⟨h.1, 0, h.2.symm⟩

end Go.Proofs.YtdkabldhkgidjaaDoor
