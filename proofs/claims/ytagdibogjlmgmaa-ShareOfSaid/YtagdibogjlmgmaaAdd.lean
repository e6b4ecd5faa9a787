/-
  share.may, lowest, divisor, Add: the contracts.
-/
import Derived.Test.YtagdibogjlmgmaaDivW
import Derived.Test.YtagdibogjlmgmaaGcd
import Derived.Laws.Externs
namespace Go.Proofs.Ytagdibogjlmgmaa
set_option linter.unusedVariables false
set_option linter.unusedSimpArgs false
open Go.RowKit

theorem add64 (x y c : Int) (hx : 0 ≤ x) (hx' : x < 18446744073709551616) (hy : 0 ≤ y) (hy' : y < 18446744073709551616) (hc0 : 0 ≤ c) (hc : c ≤ 1) (w : World) : (callFunc 46 #[.int .u64 x, .int .u64 y, .int .u64 c]).run Try.prog w =
    .ok (.value (.tuple #[.int .u64 ((x + y + c) % 18446744073709551616), .int .u64 ((x + y + c) / 18446744073709551616)])) w := by
  obtain ⟨x, rfl⟩ := Int.eq_ofNat_of_zero_le hx
  obtain ⟨y, rfl⟩ := Int.eq_ofNat_of_zero_le hy
  obtain ⟨c, rfl⟩ := Int.eq_ofNat_of_zero_le hc0
  rw [run_callFunc_extern Try.func46 (by kernel_rfl) (by kernel_rfl) (by kernel_rfl) (e := add64Entry) (by kernel_rfl), run_add64 x y c (by omega) (by omega) (by omega) (by omega)]
  rfl
theorem add64_0 (x y : Int) (hx : 0 ≤ x) (hx' : x < 18446744073709551616) (hy : 0 ≤ y) (hy' : y < 18446744073709551616) (w : World) : (callFunc 46 #[.int .u64 x, .int .u64 y, .int .u64 0]).run Try.prog w =
    .ok (.value (.tuple #[.int .u64 ((x + y) % 18446744073709551616), .int .u64 ((x + y) / 18446744073709551616)])) w := by
  simpa using add64 x y 0 hx hx' hy hy' (Int.le_refl 0) (by decide) w

set_option maxHeartbeats 400000 in
theorem c_divU (a b : Int) (w : World) (ha : 0 ≤ a) (hb : 0 ≤ b) : Calls Try.prog 45 #[.int .u64 a, .int .u64 b] w fun e w' => e = .returned (.int .u64 (G a b)) ∧ ∃ k, w' = w.drewN k := by
  go_enter Try.func45, Try.ntmps45
  go_wp2
  go_loopw [0, 1] (fun x y wr => ∃ p q : Int, x = .int .u64 p ∧ y = .int .u64 q ∧ 0 ≤ p ∧ 0 ≤ q ∧ Int.gcd p q = Int.gcd a b ∧ ∃ k, wr = w.drewN k) (fun _ y _ => (intOf y).toNat)
  case atStart => exact ⟨a, b, rfl, rfl, ha, hb, rfl, 0, rfl⟩
  case round =>
    obtain ⟨p, q, rfl, rfl, hp, hq, hg, hw⟩ := hrel
    by_cases h0 : q = 0
    · subst h0
      have hd : G a b = p := by unfold G; rw [← hg]; simp; omega
      go_wp2
      go_ret
      exact ⟨ret_i hd.symm, hw⟩
    · have h1 : 0 < q := by omega
      have hgg : Int.gcd q (p % q) = Int.gcd a b := (gcd_step p q hp hq).trans hg
      have hlt := Int.emod_lt_of_pos p h1
      have hnn := Int.emod_nonneg p h0
      have H := Lib.hid hgg
      clear hgg hg
      go_wp2
      go_quiet (fail)
      go_wp2
      go_roundw
      case rel => exact ⟨q, p % q, rfl, rfl, by omega, hnn, H.out, drew_more hw _⟩
      case measure => simp [intOf]; omega

set_option maxHeartbeats 400000 in
theorem c_may (n d : Int) (w : World) :
    Calls Try.prog 43 #[.agg #[.int .i64 n, .int .i64 d]] w fun e w' => e = .returned (.bool (decide (0 ≤ n ∧ 1 ≤ d))) ∧ Below w.heap.size w w' := by
  go_enter Try.func43, Try.ntmps43
  go_wp2
  all_goals (go_ret; refine ⟨ret_b (Bool.eq_iff_iff.2 (by simp; try omega)), ((Below.refl _ _).alloc (Nat.le_refl _) _)⟩)

set_option maxHeartbeats 400000 in
theorem c_lowest (n d : Int) (w : World) (h0 : 0 ≤ n) (h1 : n ≤ 9223372036854775807) (h2 : 1 ≤ d) (h3 : d ≤ 9223372036854775807) :
    Calls Try.prog 44 #[.agg #[.int .i64 n, .int .i64 d]] w fun e w' => e = .returned (.tuple #[.int .u64 (n / G n d), .int .u64 (d / G n d)]) ∧ Below w.heap.size w w' := by
  have g := G_pos n d (by omega)
  have g' := G_le n d (by omega)
  have a1 := div_bd n (G n d) h0 g
  have a2 := div_bd d (G n d) (by omega) g
  go_enter Try.func44, Try.ntmps44
  go_wp2
  go_quiet (fail)
  go_wp2_with (go_at_call 45; refine (c_divU _ _ _ (by omega) (by omega)).mono ?_; rintro e w' ⟨rfl, k, rfl⟩)
  go_quiet (fail)
  go_wp2
  go_ret2
  refine ⟨rfl, ?_⟩
  repeat' (first | (with_reducible exact Below.refl _ _) | (with_reducible assumption) | (with_reducible refine below_drewN ?_ _) | (with_reducible refine Below.drew ?_) | (with_reducible refine Below.alloc ?_ ?_ _) | (with_reducible refine Below.setCell ?_ ?_ _) | go_size)

theorem may_t (n d : Int) (h : 0 ≤ n) (h' : 1 ≤ d) : decide (0 ≤ n ∧ 1 ≤ d) = true := decide_eq_true ⟨h, h'⟩
theorem may_f : decide ((0 : Int) ≤ 0 ∧ (1 : Int) ≤ 0) = false := by decide

set_option maxHeartbeats 400000 in
theorem c_add_fa (bn bd : Int) (w : World) :
    Calls Try.prog 21 #[.agg #[.int .i64 0, .int .i64 0], .agg #[.int .i64 bn, .int .i64 bd]] w fun e w' => e = .returned (.tuple #[.agg #[.int .i64 0, .int .i64 0], .bool false]) ∧ Below w.heap.size w w' := by
  have hm := c_may 0 0
  rw [may_f] at hm
  have HM := Lib.hid hm
  clear hm
  go_enter Try.func21, Try.ntmps21
  go_wp2_with (go_at_call 43; refine (HM.out _).mono ?_; rintro e w1 ⟨rfl, hb⟩; obtain ⟨hc, hf⟩ := bcell hb; have hBw1 : Below w.heap.size w w1 := Below.trans (by go_grown) (hb.mono (by go_size)); have hzw1 := hBw1.size; have hsw10 : w.heap.size < w1.heap.size := (by have := hb.size; (try simp at this); omega); have hsw11 : w.heap.size + 1 < w1.heap.size := (by have := hb.size; (try simp at this); omega); have hsw12 : w.heap.size + 2 < w1.heap.size := (by have := hb.size; (try simp at this); omega))
  refine bodyPost_ret (v := .tuple #[.agg #[.int .i64 0, .int .i64 0], .bool false]) (by simp [results, Try.results21, go_sem, hc, *]) rfl ⟨rfl, ?_⟩
  repeat' (first | (with_reducible exact Below.refl _ _) | (with_reducible assumption) | (with_reducible refine below_drewN ?_ _) | (with_reducible refine Below.drew ?_) | (with_reducible refine Below.alloc ?_ ?_ _) | (with_reducible refine Below.setCell ?_ ?_ _) | go_size)

set_option maxHeartbeats 400000 in
theorem c_add_fb (an ad : Int) (w : World) (h1 : 0 ≤ an) (h2 : 1 ≤ ad) :
    Calls Try.prog 21 #[.agg #[.int .i64 an, .int .i64 ad], .agg #[.int .i64 0, .int .i64 0]] w fun e w' => e = .returned (.tuple #[.agg #[.int .i64 0, .int .i64 0], .bool false]) ∧ Below w.heap.size w w' := by
  have hm := c_may 0 0
  rw [may_f] at hm
  have HM := Lib.hid hm
  clear hm
  have hk := c_may an ad
  rw [may_t an ad h1 h2] at hk
  have HK := Lib.hid hk
  clear hk
  go_enter Try.func21, Try.ntmps21
  go_wp2_with (first | (go_at_call_of 43 an; refine (HK.out _).mono ?_; rintro e w1 ⟨rfl, hb⟩; obtain ⟨hc, hf⟩ := bcell hb; have hBw1 : Below w.heap.size w w1 := Below.trans (by go_grown) (hb.mono (by go_size)); have hzw1 := hBw1.size; have hsw10 : w.heap.size < w1.heap.size := (by have := hb.size; (try simp at this); omega); have hsw11 : w.heap.size + 1 < w1.heap.size := (by have := hb.size; (try simp at this); omega); have hsw12 : w.heap.size + 2 < w1.heap.size := (by have := hb.size; (try simp at this); omega)) | (go_at_call 43; refine (HM.out _).mono ?_; rintro e w2 ⟨rfl, hb⟩; obtain ⟨hc, hf⟩ := bcell hb; have hBw2 : Below w.heap.size w w2 := Below.trans (by go_grown) (hb.mono (by go_size)); have hzw2 := hBw2.size; have hsw20 : w.heap.size < w2.heap.size := (by have := hb.size; (try simp at this); omega); have hsw21 : w.heap.size + 1 < w2.heap.size := (by have := hb.size; (try simp at this); omega); have hsw22 : w.heap.size + 2 < w2.heap.size := (by have := hb.size; (try simp at this); omega)))
  refine bodyPost_ret (v := .tuple #[.agg #[.int .i64 0, .int .i64 0], .bool false]) (by simp [results, Try.results21, go_sem, hc, *]) rfl ⟨rfl, ?_⟩
  repeat' (first | (with_reducible exact Below.refl _ _) | (with_reducible assumption) | (with_reducible refine below_drewN ?_ _) | (with_reducible refine Below.drew ?_) | (with_reducible refine Below.alloc ?_ ?_ _) | (with_reducible refine Below.setCell ?_ ?_ _) | go_size)

end Go.Proofs.Ytagdibogjlmgmaa
