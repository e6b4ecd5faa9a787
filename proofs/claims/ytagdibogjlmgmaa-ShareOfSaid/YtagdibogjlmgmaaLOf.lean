/-
  The law ShareOf: its walk. (Printed by gen/of.py.)
-/
import Derived.Test.YtagdibogjlmgmaaAwake4
import Derived.Test.YtagdibogjlmgmaaOf
import Derived.Test.YtagdibogjlmgmaaRTimes
import Derived.Test.YtagdibogjlmgmaaWf
namespace Go.Proofs.Ytagdibogjlmgmaa
set_option linter.unusedVariables false
set_option linter.unusedSimpArgs false
open Go.RowKit

set_option maxHeartbeats 400000 in
theorem c_mayR (n d : Int) (w : World) :
    Calls Try.prog 30 #[.agg #[.int .i64 n, .int .i64 d]] w fun e w' => e = .returned (.bool (decide (0 ≤ n ∧ 1 ≤ d))) ∧ Below w.heap.size w w' := by
  go_enter Try.func30, Try.ntmps30
  go_wp2
  all_goals (go_ret; refine ⟨ret_b (Bool.eq_iff_iff.2 (by simp; try omega)), ((Below.refl _ _).alloc (Nat.le_refl _) _)⟩)
theorem c_mayR_t (n d : Int) (w : World) (hn : 0 ≤ n) (hd : 1 ≤ d) :
    Calls Try.prog 30 #[.agg #[.int .i64 n, .int .i64 d]] w fun e w' => e = .returned (.bool true) ∧ Below w.heap.size w w' := by
  have h := c_mayR n d w
  rwa [may_t n d hn hd] at h

/-- Whole times the total, and what the rest makes. -/
theorem of_parts (T n d : Int) (hd : 1 ≤ d) (hT : 0 ≤ T) : T * n / d = T * (n / d) + T * (n % d) / d := by
  have h := Int.mul_ediv_add_emod n d
  have e : T * n = T * (n % d) + T * (n / d) * d := by
    conv => lhs; rw [← h]
    rw [Int.mul_add, Int.add_comm]
    congr 1
    rw [Int.mul_comm d, Int.mul_assoc]
  rw [e, Int.add_mul_ediv_right _ _ (by omega), Int.add_comm]
theorem of_rest (T n d : Int) (hd : 1 ≤ d) (hT : 0 ≤ T) : 0 ≤ T * (n % d) / d ∧ T * (n % d) / d ≤ T ∧ (0 < T → T * (n % d) / d < T) := by
  have h0 := Int.emod_nonneg n (show d ≠ 0 by omega)
  have h1 := Int.emod_lt_of_pos n (show 0 < d by omega)
  refine ⟨Int.ediv_nonneg (Int.mul_nonneg hT h0) (by omega), ?_, fun hp => ?_⟩
  · have h2 : T * (n % d) ≤ T * d := Int.mul_le_mul_of_nonneg_left (by omega) hT
    have := Int.ediv_le_ediv (show 0 < d by omega) h2
    rwa [Int.mul_ediv_cancel _ (by omega)] at this
  · have h2 : T * (n % d) < T * d := Int.mul_lt_mul_of_pos_left h1 hp
    exact Int.ediv_lt_of_lt_mul (by omega) h2

set_option maxHeartbeats 1600000 in
theorem l_of_bad (T n d : Int) (w : World) (h : decide (0 ≤ n ∧ 1 ≤ d) = false ∨ (decide (0 ≤ n ∧ 1 ≤ d) = true ∧ (T < 0 ∨ (0 ≤ T ∧ 1099511627776 < T)))) :
    Calls Try.prog 11 #[.int .i64 T, .agg #[.int .i64 n, .int .i64 d]] w fun e w' => e = .returned (.bool true) ∧ Below w.heap.size w w' := by
  have HO := Lib.hid (fun w => c_of_bad T n d w h)
  have HM := Lib.hid (fun w => c_mayR n d w)
  rcases h with h | ⟨h, h2 | ⟨h2, h3⟩⟩
  all_goals
    go_enter Try.func11, Try.ntmps11
    go_wp2_with fail
    refine (c_awake04 _).mono ?_
    rintro e w1 ⟨rfl, hb1⟩
    have hBw1 : Hid (Below w.heap.size w w1) := Lib.hid (((Below.refl _ _).alloc (Nat.le_refl _) _).trans (hb1.mono (by simp)))
    obtain ⟨hc, hf⟩ := bcell hb1
    have zw1 : w.heap.size < w1.heap.size := by have := hb1.size; (try simp at this); omega
    have p0 : w1.cell? ⟨w.heap.size, 0, none⟩ = some (.int .i64 n) := (hc _ 0 (by go_size)).trans (by first | assumption | (simp [go_sem]; done))
    have p1 : w1.cell? ⟨w.heap.size, 1, none⟩ = some (.int .i64 d) := (hc _ 1 (by go_size)).trans (by first | assumption | (simp [go_sem]; done))
    clear hc hf hb1
    go_wp2_with fail
    refine (HO.out _).mono ?_
    rintro e w2 ⟨rfl, hb2⟩
    have hBw2 : Hid (Below w.heap.size w w2) := Lib.hid (hBw1.out.trans (hb2.mono (by omega)))
    obtain ⟨hc, hf⟩ := bcell hb2
    have zw2 : w.heap.size < w2.heap.size := by have := hb2.size; (try simp at this); omega
    have p2 : w2.cell? ⟨w.heap.size, 0, none⟩ = some (.int .i64 n) := (hc _ 0 (by go_size)).trans (by first | assumption | (simp [go_sem]; done))
    have p3 : w2.cell? ⟨w.heap.size, 1, none⟩ = some (.int .i64 d) := (hc _ 1 (by go_size)).trans (by first | assumption | (simp [go_sem]; done))
    clear hc hf hb2
    clear p0 p1
    go_wp2_with fail
    refine (HM.out _).mono ?_
    rintro e w3 ⟨rfl, hb3⟩
    have hBw3 : Hid (Below w.heap.size w w3) := Lib.hid (hBw2.out.trans (hb3.mono (by omega)))
    obtain ⟨hc, hf⟩ := bcell hb3
    have zw3 : w.heap.size < w3.heap.size := by have := hb3.size; (try simp at this); omega
    have p0 : w3.cell? ⟨w.heap.size, 0, none⟩ = some (.int .i64 n) := (hc _ 0 (by go_size)).trans (by first | assumption | (simp [go_sem]; done))
    have p1 : w3.cell? ⟨w.heap.size, 1, none⟩ = some (.int .i64 d) := (hc _ 1 (by go_size)).trans (by first | assumption | (simp [go_sem]; done))
    clear hc hf hb3
    clear p2 p3
    rw [h]
    clear h
    go_wp2_with fail
    go_ret
    exact ⟨rfl, hBw3.out⟩

set_option maxHeartbeats 1600000 in
theorem l_of_b1 (T n d : Int) (w : World) (hn : 0 ≤ n) (hn2 : n ≤ 9223372036854775807) (hd : 1 ≤ d) (hd2 : d ≤ 9223372036854775807) (hT : 0 ≤ T) (hT2 : T ≤ 1099511627776) (hp : 0 < T) (hg : 1099511627776 / T < n / d) :
    Calls Try.prog 11 #[.int .i64 T, .agg #[.int .i64 n, .int .i64 d]] w fun e w' => e = .returned (.bool true) ∧ Below w.heap.size w w' := by
  have w0 : 0 ≤ n / d := Int.ediv_nonneg hn (by omega)
  have w1' : n / d ≤ n := Int.ediv_le_self _ hn
  have l0 := Int.emod_nonneg n (show d ≠ 0 by omega)
  have l1 := Int.emod_lt_of_pos n (show 0 < d by omega)
  have hov : 1099511627776 < T * n / d := by
    have h1 := of_parts T n d hd hT
    have h2 := (of_rest T n d hd hT).1
    have h3 : 1099511627776 < n / d * T := (Int.ediv_lt_iff_lt_mul hp).1 hg
    rw [Int.mul_comm] at h3
    omega
  have g0 : 0 ≤ 1099511627776 / T := Int.ediv_nonneg (by omega) hT
  have HO := Lib.hid (fun w => c_of_over T n d w hn hn2 hd hd2 hT hT2 hov)
  go_enter Try.func11, Try.ntmps11
  go_wp2_with fail
  refine (c_awake04 _).mono ?_
  rintro e w1 ⟨rfl, hb1⟩
  have hBw1 : Hid (Below w.heap.size w w1) := Lib.hid (((Below.refl _ _).alloc (Nat.le_refl _) _).trans (hb1.mono (by simp)))
  obtain ⟨hc, hf⟩ := bcell hb1
  have zw1 : w.heap.size < w1.heap.size := by have := hb1.size; (try simp at this); omega
  have p0 : w1.cell? ⟨w.heap.size, 0, none⟩ = some (.int .i64 n) := (hc _ 0 (by go_size)).trans (by first | assumption | (simp [go_sem]; done))
  have p1 : w1.cell? ⟨w.heap.size, 1, none⟩ = some (.int .i64 d) := (hc _ 1 (by go_size)).trans (by first | assumption | (simp [go_sem]; done))
  clear hc hf hb1
  go_wp2_with fail
  refine (HO.out _).mono ?_
  rintro e w2 ⟨rfl, hb2⟩
  have hBw2 : Hid (Below w.heap.size w w2) := Lib.hid (hBw1.out.trans (hb2.mono (by omega)))
  obtain ⟨hc, hf⟩ := bcell hb2
  have zw2 : w.heap.size < w2.heap.size := by have := hb2.size; (try simp at this); omega
  have p2 : w2.cell? ⟨w.heap.size, 0, none⟩ = some (.int .i64 n) := (hc _ 0 (by go_size)).trans (by first | assumption | (simp [go_sem]; done))
  have p3 : w2.cell? ⟨w.heap.size, 1, none⟩ = some (.int .i64 d) := (hc _ 1 (by go_size)).trans (by first | assumption | (simp [go_sem]; done))
  clear hc hf hb2
  clear p0 p1
  go_wp2_with fail
  refine (c_mayR_t n d _ hn hd).mono ?_
  rintro e w3 ⟨rfl, hb3⟩
  have hBw3 : Hid (Below w.heap.size w w3) := Lib.hid (hBw2.out.trans (hb3.mono (by omega)))
  obtain ⟨hc, hf⟩ := bcell hb3
  have zw3 : w.heap.size < w3.heap.size := by have := hb3.size; (try simp at this); omega
  have p0 : w3.cell? ⟨w.heap.size, 0, none⟩ = some (.int .i64 n) := (hc _ 0 (by go_size)).trans (by first | assumption | (simp [go_sem]; done))
  have p1 : w3.cell? ⟨w.heap.size, 1, none⟩ = some (.int .i64 d) := (hc _ 1 (by go_size)).trans (by first | assumption | (simp [go_sem]; done))
  clear hc hf hb3
  clear p2 p3
  go_wp2_with fail
  go_quiet (fail)
  go_wp2
  go_ret
  exact ⟨rfl, below_drewN hBw3.out _⟩

set_option maxHeartbeats 3200000 in
theorem l_of_big_ok (T n d : Int) (w : World) (hn : 0 ≤ n) (hn2 : n ≤ 9223372036854775807) (hd : 1 ≤ d) (hd2 : d ≤ 9223372036854775807) (hT : 0 ≤ T) (hT2 : T ≤ 1099511627776) (hg : T ≤ 0 ∨ (0 < T ∧ n / d ≤ 1099511627776 / T)) (htw : T * (n / d) ≤ 1099511627776) (hb : 4611686018427387904 < d) (hq : T * n / d ≤ 1099511627776) :
    Calls Try.prog 11 #[.int .i64 T, .agg #[.int .i64 n, .int .i64 d]] w fun e w' => e = .returned (.bool true) ∧ Below w.heap.size w w' := by
  have w0 : 0 ≤ n / d := Int.ediv_nonneg hn (by omega)
  have w1' : n / d ≤ n := Int.ediv_le_self _ hn
  have l0 := Int.emod_nonneg n (show d ≠ 0 by omega)
  have l1 := Int.emod_lt_of_pos n (show 0 < d by omega)
  have hQ := of_parts T n d hd hT
  have hP := of_rest T n d hd hT
  have t0 : 0 ≤ T * (n / d) := Int.mul_nonneg hT w0
  have w2 : n / d ≤ 1 := by have := (Int.ediv_lt_iff_lt_mul (a := n) (b := 2) (show 0 < d by omega)).2 (by omega); omega
  have m1 : T * (n / d + 1) = T * (n / d) + T := by rw [Int.mul_add, Int.mul_one]
  have d1 : decide (T * (n / d) ≤ T * n / d) = true := by simp only [decide_eq_true_eq]; omega
  have d2 : decide (T * n / d ≤ T * (n / d + 1)) = true := by simp only [decide_eq_true_eq]; omega
  have m2 : T * (n / d + 1) ≤ 2199023255552 := by omega
  have m3 : 0 ≤ T * (n / d + 1) := by omega
  clear hQ hP m1
  have HO := Lib.hid (fun w => c_of_ok T n d w hn hn2 hd hd2 hT hT2 hq)
  rcases hg with hp | ⟨hp, hg⟩
  all_goals
    go_enter Try.func11, Try.ntmps11
    go_wp2_with fail
    refine (c_awake04 _).mono ?_
    rintro e w1 ⟨rfl, hb1⟩
    have hBw1 : Hid (Below w.heap.size w w1) := Lib.hid (((Below.refl _ _).alloc (Nat.le_refl _) _).trans (hb1.mono (by simp)))
    obtain ⟨hc, hf⟩ := bcell hb1
    have zw1 : w.heap.size < w1.heap.size := by have := hb1.size; (try simp at this); omega
    have p0 : w1.cell? ⟨w.heap.size, 0, none⟩ = some (.int .i64 n) := (hc _ 0 (by go_size)).trans (by first | assumption | (simp [go_sem]; done))
    have p1 : w1.cell? ⟨w.heap.size, 1, none⟩ = some (.int .i64 d) := (hc _ 1 (by go_size)).trans (by first | assumption | (simp [go_sem]; done))
    clear hc hf hb1
    go_wp2_with fail
    refine (HO.out _).mono ?_
    rintro e w2 ⟨rfl, hb2⟩
    have hBw2 : Hid (Below w.heap.size w w2) := Lib.hid (hBw1.out.trans (hb2.mono (by omega)))
    obtain ⟨hc, hf⟩ := bcell hb2
    have zw2 : w.heap.size < w2.heap.size := by have := hb2.size; (try simp at this); omega
    have p2 : w2.cell? ⟨w.heap.size, 0, none⟩ = some (.int .i64 n) := (hc _ 0 (by go_size)).trans (by first | assumption | (simp [go_sem]; done))
    have p3 : w2.cell? ⟨w.heap.size, 1, none⟩ = some (.int .i64 d) := (hc _ 1 (by go_size)).trans (by first | assumption | (simp [go_sem]; done))
    clear hc hf hb2
    clear p0 p1
    go_wp2_with fail
    refine (c_mayR_t n d _ hn hd).mono ?_
    rintro e w3 ⟨rfl, hb3⟩
    have hBw3 : Hid (Below w.heap.size w w3) := Lib.hid (hBw2.out.trans (hb3.mono (by omega)))
    obtain ⟨hc, hf⟩ := bcell hb3
    have zw3 : w.heap.size < w3.heap.size := by have := hb3.size; (try simp at this); omega
    have p0 : w3.cell? ⟨w.heap.size, 0, none⟩ = some (.int .i64 n) := (hc _ 0 (by go_size)).trans (by first | assumption | (simp [go_sem]; done))
    have p1 : w3.cell? ⟨w.heap.size, 1, none⟩ = some (.int .i64 d) := (hc _ 1 (by go_size)).trans (by first | assumption | (simp [go_sem]; done))
    clear hc hf hb3
    clear p2 p3
    go_wp2_with fail
    go_quiet (fail)
    go_wp2
    go_ret
    exact ⟨rfl, below_drewN hBw3.out _⟩

set_option maxHeartbeats 3200000 in
theorem l_of_big_over (T n d : Int) (w : World) (hn : 0 ≤ n) (hn2 : n ≤ 9223372036854775807) (hd : 1 ≤ d) (hd2 : d ≤ 9223372036854775807) (hT : 0 ≤ T) (hT2 : T ≤ 1099511627776) (hg : T ≤ 0 ∨ (0 < T ∧ n / d ≤ 1099511627776 / T)) (htw : T * (n / d) ≤ 1099511627776) (hb : 4611686018427387904 < d) (hq : 1099511627776 < T * n / d) :
    Calls Try.prog 11 #[.int .i64 T, .agg #[.int .i64 n, .int .i64 d]] w fun e w' => e = .returned (.bool true) ∧ Below w.heap.size w w' := by
  have w0 : 0 ≤ n / d := Int.ediv_nonneg hn (by omega)
  have w1' : n / d ≤ n := Int.ediv_le_self _ hn
  have l0 := Int.emod_nonneg n (show d ≠ 0 by omega)
  have l1 := Int.emod_lt_of_pos n (show 0 < d by omega)
  have hQ := of_parts T n d hd hT
  have hP := of_rest T n d hd hT
  have t0 : 0 ≤ T * (n / d) := Int.mul_nonneg hT w0
  have w2 : n / d ≤ 1 := by have := (Int.ediv_lt_iff_lt_mul (a := n) (b := 2) (show 0 < d by omega)).2 (by omega); omega
  have m1 : T * (n / d + 1) = T * (n / d) + T := by rw [Int.mul_add, Int.mul_one]
  have d1 : decide (1099511627776 < T * (n / d + 1)) = true := by simp only [decide_eq_true_eq]; omega
  have m2 : T * (n / d + 1) ≤ 2199023255552 := by omega
  have m3 : 0 ≤ T * (n / d + 1) := by omega
  clear hQ hP m1
  have g0 : 0 ≤ 1099511627776 / T := Int.ediv_nonneg (by omega) hT
  have HO := Lib.hid (fun w => c_of_over T n d w hn hn2 hd hd2 hT hT2 hq)
  rcases hg with hp | ⟨hp, hg⟩
  · exfalso
    obtain rfl : T = 0 := by omega
    simp at hq
  all_goals
    go_enter Try.func11, Try.ntmps11
    go_wp2_with fail
    refine (c_awake04 _).mono ?_
    rintro e w1 ⟨rfl, hb1⟩
    have hBw1 : Hid (Below w.heap.size w w1) := Lib.hid (((Below.refl _ _).alloc (Nat.le_refl _) _).trans (hb1.mono (by simp)))
    obtain ⟨hc, hf⟩ := bcell hb1
    have zw1 : w.heap.size < w1.heap.size := by have := hb1.size; (try simp at this); omega
    have p0 : w1.cell? ⟨w.heap.size, 0, none⟩ = some (.int .i64 n) := (hc _ 0 (by go_size)).trans (by first | assumption | (simp [go_sem]; done))
    have p1 : w1.cell? ⟨w.heap.size, 1, none⟩ = some (.int .i64 d) := (hc _ 1 (by go_size)).trans (by first | assumption | (simp [go_sem]; done))
    clear hc hf hb1
    go_wp2_with fail
    refine (HO.out _).mono ?_
    rintro e w2 ⟨rfl, hb2⟩
    have hBw2 : Hid (Below w.heap.size w w2) := Lib.hid (hBw1.out.trans (hb2.mono (by omega)))
    obtain ⟨hc, hf⟩ := bcell hb2
    have zw2 : w.heap.size < w2.heap.size := by have := hb2.size; (try simp at this); omega
    have p2 : w2.cell? ⟨w.heap.size, 0, none⟩ = some (.int .i64 n) := (hc _ 0 (by go_size)).trans (by first | assumption | (simp [go_sem]; done))
    have p3 : w2.cell? ⟨w.heap.size, 1, none⟩ = some (.int .i64 d) := (hc _ 1 (by go_size)).trans (by first | assumption | (simp [go_sem]; done))
    clear hc hf hb2
    clear p0 p1
    go_wp2_with fail
    refine (c_mayR_t n d _ hn hd).mono ?_
    rintro e w3 ⟨rfl, hb3⟩
    have hBw3 : Hid (Below w.heap.size w w3) := Lib.hid (hBw2.out.trans (hb3.mono (by omega)))
    obtain ⟨hc, hf⟩ := bcell hb3
    have zw3 : w.heap.size < w3.heap.size := by have := hb3.size; (try simp at this); omega
    have p0 : w3.cell? ⟨w.heap.size, 0, none⟩ = some (.int .i64 n) := (hc _ 0 (by go_size)).trans (by first | assumption | (simp [go_sem]; done))
    have p1 : w3.cell? ⟨w.heap.size, 1, none⟩ = some (.int .i64 d) := (hc _ 1 (by go_size)).trans (by first | assumption | (simp [go_sem]; done))
    clear hc hf hb3
    clear p2 p3
    go_wp2_with fail
    go_quiet (fail)
    go_wp2
    go_ret
    exact ⟨rfl, below_drewN hBw3.out _⟩

set_option maxHeartbeats 3200000 in
theorem l_of_ok (T n d : Int) (w : World) (hn : 0 ≤ n) (hn2 : n ≤ 9223372036854775807) (hd : 1 ≤ d) (hd2 : d ≤ 9223372036854775807) (hT : 0 ≤ T) (hT2 : T ≤ 1099511627776) (hg : T ≤ 0 ∨ (0 < T ∧ n / d ≤ 1099511627776 / T)) (htw : T * (n / d) ≤ 1099511627776) (hb : d ≤ 4611686018427387904) (hq : T * n / d ≤ 1099511627776) :
    Calls Try.prog 11 #[.int .i64 T, .agg #[.int .i64 n, .int .i64 d]] w fun e w' => e = .returned (.bool true) ∧ Below w.heap.size w w' := by
  have w0 : 0 ≤ n / d := Int.ediv_nonneg hn (by omega)
  have w1' : n / d ≤ n := Int.ediv_le_self _ hn
  have l0 := Int.emod_nonneg n (show d ≠ 0 by omega)
  have l1 := Int.emod_lt_of_pos n (show 0 < d by omega)
  have hQ := of_parts T n d hd hT
  have hP := of_rest T n d hd hT
  have t0 : 0 ≤ T * (n / d) := Int.mul_nonneg hT w0
  have HT := Lib.hid (fun w => c_rtimes T (n % d) d w hT (by omega) l0 (by omega) hd hb (by omega))
  have HQ := Lib.hid hQ
  obtain ⟨p0', p1', _⟩ := hP
  have d1 : (T * n / d == T * (n / d) + T * (n % d) / d) = true := by simp only [beq_iff_eq]; exact hQ
  have d2 : T * (n / d) + T * (n % d) / d ≤ 1099511627776 := by omega
  clear hQ
  have HO := Lib.hid (fun w => c_of_ok T n d w hn hn2 hd hd2 hT hT2 hq)
  rcases hg with hp | ⟨hp, hg⟩
  all_goals
    go_enter Try.func11, Try.ntmps11
    go_wp2_with fail
    refine (c_awake04 _).mono ?_
    rintro e w1 ⟨rfl, hb1⟩
    have hBw1 : Hid (Below w.heap.size w w1) := Lib.hid (((Below.refl _ _).alloc (Nat.le_refl _) _).trans (hb1.mono (by simp)))
    obtain ⟨hc, hf⟩ := bcell hb1
    have zw1 : w.heap.size < w1.heap.size := by have := hb1.size; (try simp at this); omega
    have p0 : w1.cell? ⟨w.heap.size, 0, none⟩ = some (.int .i64 n) := (hc _ 0 (by go_size)).trans (by first | assumption | (simp [go_sem]; done))
    have p1 : w1.cell? ⟨w.heap.size, 1, none⟩ = some (.int .i64 d) := (hc _ 1 (by go_size)).trans (by first | assumption | (simp [go_sem]; done))
    clear hc hf hb1
    go_wp2_with fail
    refine (HO.out _).mono ?_
    rintro e w2 ⟨rfl, hb2⟩
    have hBw2 : Hid (Below w.heap.size w w2) := Lib.hid (hBw1.out.trans (hb2.mono (by omega)))
    obtain ⟨hc, hf⟩ := bcell hb2
    have zw2 : w.heap.size < w2.heap.size := by have := hb2.size; (try simp at this); omega
    have p2 : w2.cell? ⟨w.heap.size, 0, none⟩ = some (.int .i64 n) := (hc _ 0 (by go_size)).trans (by first | assumption | (simp [go_sem]; done))
    have p3 : w2.cell? ⟨w.heap.size, 1, none⟩ = some (.int .i64 d) := (hc _ 1 (by go_size)).trans (by first | assumption | (simp [go_sem]; done))
    clear hc hf hb2
    clear p0 p1
    go_wp2_with fail
    refine (c_mayR_t n d _ hn hd).mono ?_
    rintro e w3 ⟨rfl, hb3⟩
    have hBw3 : Hid (Below w.heap.size w w3) := Lib.hid (hBw2.out.trans (hb3.mono (by omega)))
    obtain ⟨hc, hf⟩ := bcell hb3
    have zw3 : w.heap.size < w3.heap.size := by have := hb3.size; (try simp at this); omega
    have p0 : w3.cell? ⟨w.heap.size, 0, none⟩ = some (.int .i64 n) := (hc _ 0 (by go_size)).trans (by first | assumption | (simp [go_sem]; done))
    have p1 : w3.cell? ⟨w.heap.size, 1, none⟩ = some (.int .i64 d) := (hc _ 1 (by go_size)).trans (by first | assumption | (simp [go_sem]; done))
    clear hc hf hb3
    clear p2 p3
    go_wp2_with fail
    go_quiet (fail)
    go_wp2_with (go_at_call 27; refine (HT.out _).mono ?_; rintro e w' ⟨rfl, rfl⟩)
    go_ret
    exact ⟨rfl, below_drewN hBw3.out _⟩

set_option maxHeartbeats 3200000 in
theorem l_of_over (T n d : Int) (w : World) (hn : 0 ≤ n) (hn2 : n ≤ 9223372036854775807) (hd : 1 ≤ d) (hd2 : d ≤ 9223372036854775807) (hT : 0 ≤ T) (hT2 : T ≤ 1099511627776) (hg : T ≤ 0 ∨ (0 < T ∧ n / d ≤ 1099511627776 / T)) (htw : T * (n / d) ≤ 1099511627776) (hb : d ≤ 4611686018427387904) (hq : 1099511627776 < T * n / d) :
    Calls Try.prog 11 #[.int .i64 T, .agg #[.int .i64 n, .int .i64 d]] w fun e w' => e = .returned (.bool true) ∧ Below w.heap.size w w' := by
  have w0 : 0 ≤ n / d := Int.ediv_nonneg hn (by omega)
  have w1' : n / d ≤ n := Int.ediv_le_self _ hn
  have l0 := Int.emod_nonneg n (show d ≠ 0 by omega)
  have l1 := Int.emod_lt_of_pos n (show 0 < d by omega)
  have hQ := of_parts T n d hd hT
  have hP := of_rest T n d hd hT
  have t0 : 0 ≤ T * (n / d) := Int.mul_nonneg hT w0
  have HT := Lib.hid (fun w => c_rtimes T (n % d) d w hT (by omega) l0 (by omega) hd hb (by omega))
  have HQ := Lib.hid hQ
  obtain ⟨p0', p1', _⟩ := hP
  have d2 : 1099511627776 < T * (n / d) + T * (n % d) / d := by omega
  clear hQ
  have g0 : 0 ≤ 1099511627776 / T := Int.ediv_nonneg (by omega) hT
  have HO := Lib.hid (fun w => c_of_over T n d w hn hn2 hd hd2 hT hT2 hq)
  rcases hg with hp | ⟨hp, hg⟩
  · exfalso
    obtain rfl : T = 0 := by omega
    simp at hq
  all_goals
    go_enter Try.func11, Try.ntmps11
    go_wp2_with fail
    refine (c_awake04 _).mono ?_
    rintro e w1 ⟨rfl, hb1⟩
    have hBw1 : Hid (Below w.heap.size w w1) := Lib.hid (((Below.refl _ _).alloc (Nat.le_refl _) _).trans (hb1.mono (by simp)))
    obtain ⟨hc, hf⟩ := bcell hb1
    have zw1 : w.heap.size < w1.heap.size := by have := hb1.size; (try simp at this); omega
    have p0 : w1.cell? ⟨w.heap.size, 0, none⟩ = some (.int .i64 n) := (hc _ 0 (by go_size)).trans (by first | assumption | (simp [go_sem]; done))
    have p1 : w1.cell? ⟨w.heap.size, 1, none⟩ = some (.int .i64 d) := (hc _ 1 (by go_size)).trans (by first | assumption | (simp [go_sem]; done))
    clear hc hf hb1
    go_wp2_with fail
    refine (HO.out _).mono ?_
    rintro e w2 ⟨rfl, hb2⟩
    have hBw2 : Hid (Below w.heap.size w w2) := Lib.hid (hBw1.out.trans (hb2.mono (by omega)))
    obtain ⟨hc, hf⟩ := bcell hb2
    have zw2 : w.heap.size < w2.heap.size := by have := hb2.size; (try simp at this); omega
    have p2 : w2.cell? ⟨w.heap.size, 0, none⟩ = some (.int .i64 n) := (hc _ 0 (by go_size)).trans (by first | assumption | (simp [go_sem]; done))
    have p3 : w2.cell? ⟨w.heap.size, 1, none⟩ = some (.int .i64 d) := (hc _ 1 (by go_size)).trans (by first | assumption | (simp [go_sem]; done))
    clear hc hf hb2
    clear p0 p1
    go_wp2_with fail
    refine (c_mayR_t n d _ hn hd).mono ?_
    rintro e w3 ⟨rfl, hb3⟩
    have hBw3 : Hid (Below w.heap.size w w3) := Lib.hid (hBw2.out.trans (hb3.mono (by omega)))
    obtain ⟨hc, hf⟩ := bcell hb3
    have zw3 : w.heap.size < w3.heap.size := by have := hb3.size; (try simp at this); omega
    have p0 : w3.cell? ⟨w.heap.size, 0, none⟩ = some (.int .i64 n) := (hc _ 0 (by go_size)).trans (by first | assumption | (simp [go_sem]; done))
    have p1 : w3.cell? ⟨w.heap.size, 1, none⟩ = some (.int .i64 d) := (hc _ 1 (by go_size)).trans (by first | assumption | (simp [go_sem]; done))
    clear hc hf hb3
    clear p2 p3
    go_wp2_with fail
    go_quiet (fail)
    go_wp2_with (go_at_call 27; refine (HT.out _).mono ?_; rintro e w' ⟨rfl, rfl⟩)
    go_ret
    exact ⟨rfl, below_drewN hBw3.out _⟩

theorem l_of (T n d : Int) (w : World) (hTw : (Lit.int .i64 T).wf = true) (hnw : (Lit.int .i64 n).wf = true) (hdw : (Lit.int .i64 d).wf = true) :
    Calls Try.prog 11 #[.int .i64 T, .agg #[.int .i64 n, .int .i64 d]] w fun e w' => e = .returned (.bool true) ∧ Below w.heap.size w w' := by
  have hn2 := (bnd_i64 hnw).2
  have hd2 := (bnd_i64 hdw).2
  by_cases hv : 0 ≤ n ∧ 1 ≤ d
  · obtain ⟨hn, hd⟩ := hv
    by_cases h1 : T < 0
    · exact l_of_bad T n d w (.inr ⟨may_t n d hn hd, .inl h1⟩)
    · by_cases h2 : 1099511627776 < T
      · exact l_of_bad T n d w (.inr ⟨may_t n d hn hd, .inr ⟨by omega, h2⟩⟩)
      · have hT : 0 ≤ T := by omega
        have hT2 : T ≤ 1099511627776 := by omega
        have hg : (0 < T ∧ 1099511627776 / T < n / d) ∨ ((T ≤ 0 ∨ (0 < T ∧ n / d ≤ 1099511627776 / T)) ∧ T * (n / d) ≤ 1099511627776) := by
          by_cases h0 : T = 0
          · exact .inr ⟨.inl (by omega), by subst h0; simp⟩
          · by_cases h3 : 1099511627776 / T < n / d
            · exact .inl ⟨by omega, h3⟩
            · refine .inr ⟨.inr ⟨by omega, by omega⟩, ?_⟩
              have := (Int.le_ediv_iff_mul_le (show 0 < T by omega)).1 (show n / d ≤ 1099511627776 / T by omega)
              rwa [Int.mul_comm] at this
        rcases hg with ⟨g1, g2⟩ | ⟨g1, g2⟩
        · exact l_of_b1 T n d w hn hn2 hd hd2 hT hT2 g1 g2
        · by_cases hb : 4611686018427387904 < d
          · by_cases hq : T * n / d ≤ 1099511627776
            · exact l_of_big_ok T n d w hn hn2 hd hd2 hT hT2 g1 g2 hb hq
            · exact l_of_big_over T n d w hn hn2 hd hd2 hT hT2 g1 g2 hb (by omega)
          · by_cases hq : T * n / d ≤ 1099511627776
            · exact l_of_ok T n d w hn hn2 hd hd2 hT hT2 g1 g2 (by omega) hq
            · exact l_of_over T n d w hn hn2 hd hd2 hT hT2 g1 g2 (by omega) (by omega)
  · exact l_of_bad T n d w (.inl (by simpa using hv))

end Go.Proofs.Ytagdibogjlmgmaa
