/-
  The walk of discount.Interest.
-/
import Derived.Test.YtagdibogjlmgmabA1
namespace Go.Proofs.Ytagdibogjlmgmab
set_option linter.unusedVariables false
set_option linter.unusedSimpArgs false
open Go.RowKit

set_option maxHeartbeats 400000 in
theorem c_interest_no0 (s n d t base : Int) (w : World) (k0 : s < 0) :
    Calls Try.prog 6 #[.int .i64 s, .agg #[.int .i64 n, .int .i64 d], .int .i64 t, .int .i64 base] w fun e w' => e = .returned (.tuple #[.agg #[.int .i64 0, .int .i64 0], .bool false]) ∧ Below w.heap.size w w' := by
  go_enter Try.func6, Try.ntmps6
  go_wp2_with (first | (go_at_call 12; refine (c_right _ _).mono ?_; rintro e w' ⟨rfl, rfl⟩) | (go_at_call 13; refine (c_based _ _).mono ?_; rintro e w' ⟨rfl, rfl⟩))
  exact bodyPost_ret (v := .tuple #[.agg #[.int .i64 0, .int .i64 0], .bool false]) (by simp [results, Try.results6, go_sem]) rfl ⟨rfl, (by go_grown)⟩

set_option maxHeartbeats 400000 in
theorem c_interest_no1 (s n d t base : Int) (w : World) (k0 : 0 ≤ s) (k1 : 1099511627776 < s) :
    Calls Try.prog 6 #[.int .i64 s, .agg #[.int .i64 n, .int .i64 d], .int .i64 t, .int .i64 base] w fun e w' => e = .returned (.tuple #[.agg #[.int .i64 0, .int .i64 0], .bool false]) ∧ Below w.heap.size w w' := by
  go_enter Try.func6, Try.ntmps6
  go_wp2_with (first | (go_at_call 12; refine (c_right _ _).mono ?_; rintro e w' ⟨rfl, rfl⟩) | (go_at_call 13; refine (c_based _ _).mono ?_; rintro e w' ⟨rfl, rfl⟩))
  exact bodyPost_ret (v := .tuple #[.agg #[.int .i64 0, .int .i64 0], .bool false]) (by simp [results, Try.results6, go_sem]) rfl ⟨rfl, (by go_grown)⟩

set_option maxHeartbeats 400000 in
theorem c_interest_no2 (s n d t base : Int) (w : World) (k0 : 0 ≤ s) (k1 : s ≤ 1099511627776) (k2 : n < 0) :
    Calls Try.prog 6 #[.int .i64 s, .agg #[.int .i64 n, .int .i64 d], .int .i64 t, .int .i64 base] w fun e w' => e = .returned (.tuple #[.agg #[.int .i64 0, .int .i64 0], .bool false]) ∧ Below w.heap.size w w' := by
  go_enter Try.func6, Try.ntmps6
  go_wp2_with (first | (go_at_call 12; refine (c_right _ _).mono ?_; rintro e w' ⟨rfl, rfl⟩) | (go_at_call 13; refine (c_based _ _).mono ?_; rintro e w' ⟨rfl, rfl⟩))
  exact bodyPost_ret (v := .tuple #[.agg #[.int .i64 0, .int .i64 0], .bool false]) (by simp [results, Try.results6, go_sem]) rfl ⟨rfl, (by go_grown)⟩

set_option maxHeartbeats 400000 in
theorem c_interest_no3 (s n d t base : Int) (w : World) (k0 : 0 ≤ s) (k1 : s ≤ 1099511627776) (k2 : 0 ≤ n) (k3 : 1048576 < n) :
    Calls Try.prog 6 #[.int .i64 s, .agg #[.int .i64 n, .int .i64 d], .int .i64 t, .int .i64 base] w fun e w' => e = .returned (.tuple #[.agg #[.int .i64 0, .int .i64 0], .bool false]) ∧ Below w.heap.size w w' := by
  go_enter Try.func6, Try.ntmps6
  go_wp2_with (first | (go_at_call 12; refine (c_right _ _).mono ?_; rintro e w' ⟨rfl, rfl⟩) | (go_at_call 13; refine (c_based _ _).mono ?_; rintro e w' ⟨rfl, rfl⟩))
  exact bodyPost_ret (v := .tuple #[.agg #[.int .i64 0, .int .i64 0], .bool false]) (by simp [results, Try.results6, go_sem]) rfl ⟨rfl, (by go_grown)⟩

set_option maxHeartbeats 400000 in
theorem c_interest_no4 (s n d t base : Int) (w : World) (k0 : 0 ≤ s) (k1 : s ≤ 1099511627776) (k2 : 0 ≤ n) (k3 : n ≤ 1048576) (k4 : d < 1) :
    Calls Try.prog 6 #[.int .i64 s, .agg #[.int .i64 n, .int .i64 d], .int .i64 t, .int .i64 base] w fun e w' => e = .returned (.tuple #[.agg #[.int .i64 0, .int .i64 0], .bool false]) ∧ Below w.heap.size w w' := by
  go_enter Try.func6, Try.ntmps6
  go_wp2_with (first | (go_at_call 12; refine (c_right _ _).mono ?_; rintro e w' ⟨rfl, rfl⟩) | (go_at_call 13; refine (c_based _ _).mono ?_; rintro e w' ⟨rfl, rfl⟩))
  exact bodyPost_ret (v := .tuple #[.agg #[.int .i64 0, .int .i64 0], .bool false]) (by simp [results, Try.results6, go_sem]) rfl ⟨rfl, (by go_grown)⟩

set_option maxHeartbeats 400000 in
theorem c_interest_no5 (s n d t base : Int) (w : World) (k0 : 0 ≤ s) (k1 : s ≤ 1099511627776) (k2 : 0 ≤ n) (k3 : n ≤ 1048576) (k4 : 1 ≤ d) (k5 : 1048576 < d) :
    Calls Try.prog 6 #[.int .i64 s, .agg #[.int .i64 n, .int .i64 d], .int .i64 t, .int .i64 base] w fun e w' => e = .returned (.tuple #[.agg #[.int .i64 0, .int .i64 0], .bool false]) ∧ Below w.heap.size w w' := by
  go_enter Try.func6, Try.ntmps6
  go_wp2_with (first | (go_at_call 12; refine (c_right _ _).mono ?_; rintro e w' ⟨rfl, rfl⟩) | (go_at_call 13; refine (c_based _ _).mono ?_; rintro e w' ⟨rfl, rfl⟩))
  exact bodyPost_ret (v := .tuple #[.agg #[.int .i64 0, .int .i64 0], .bool false]) (by simp [results, Try.results6, go_sem]) rfl ⟨rfl, (by go_grown)⟩

set_option maxHeartbeats 400000 in
theorem c_interest_no6 (s n d t base : Int) (w : World) (k0 : 0 ≤ s) (k1 : s ≤ 1099511627776) (k2 : 0 ≤ n) (k3 : n ≤ 1048576) (k4 : 1 ≤ d) (k5 : d ≤ 1048576) (k6 : decide (0 ≤ t ∧ t ≤ 1048576) = false) :
    Calls Try.prog 6 #[.int .i64 s, .agg #[.int .i64 n, .int .i64 d], .int .i64 t, .int .i64 base] w fun e w' => e = .returned (.tuple #[.agg #[.int .i64 0, .int .i64 0], .bool false]) ∧ Below w.heap.size w w' := by
  go_enter Try.func6, Try.ntmps6
  go_wp2_with (first | (go_at_call 12; refine (c_right _ _).mono ?_; rintro e w' ⟨rfl, rfl⟩) | (go_at_call 13; refine (c_based _ _).mono ?_; rintro e w' ⟨rfl, rfl⟩))
  exact bodyPost_ret (v := .tuple #[.agg #[.int .i64 0, .int .i64 0], .bool false]) (by simp [results, Try.results6, go_sem]) rfl ⟨rfl, (by go_grown)⟩

set_option maxHeartbeats 400000 in
theorem c_interest_no7 (s n d t base : Int) (w : World) (k0 : 0 ≤ s) (k1 : s ≤ 1099511627776) (k2 : 0 ≤ n) (k3 : n ≤ 1048576) (k4 : 1 ≤ d) (k5 : d ≤ 1048576) (k6 : decide (0 ≤ t ∧ t ≤ 1048576) = true) (k7 : decide (base = 360 ∨ base = 365) = false) :
    Calls Try.prog 6 #[.int .i64 s, .agg #[.int .i64 n, .int .i64 d], .int .i64 t, .int .i64 base] w fun e w' => e = .returned (.tuple #[.agg #[.int .i64 0, .int .i64 0], .bool false]) ∧ Below w.heap.size w w' := by
  go_enter Try.func6, Try.ntmps6
  go_wp2_with (first | (go_at_call 12; refine (c_right _ _).mono ?_; rintro e w' ⟨rfl, rfl⟩) | (go_at_call 13; refine (c_based _ _).mono ?_; rintro e w' ⟨rfl, rfl⟩))
  exact bodyPost_ret (v := .tuple #[.agg #[.int .i64 0, .int .i64 0], .bool false]) (by simp [results, Try.results6, go_sem]) rfl ⟨rfl, (by go_grown)⟩


theorem gpos (a b : Int) (h : 1 ≤ b) : 1 ≤ G a b := G_pos a b (by omega)
set_option maxHeartbeats 1600000 in
theorem c_interest_yes (s n d t base : Int) (w : World) (hv : validB s n d t base = true) (hs : 1 ≤ s) (hn : 1 ≤ n) (ht : 1 ≤ t) (hN : intN s n d t base ≤ 9223372036854775807) :
    Calls Try.prog 6 #[.int .i64 s, .agg #[.int .i64 n, .int .i64 d], .int .i64 t, .int .i64 base] w fun e w' =>
      e = .returned (.tuple #[.agg #[.int .i64 (intN s n d t base), .int .i64 (intD s n d t base)], .bool true]) ∧ Below w.heap.size w w' := by
  have hD := valid_D hv
  have hst := steps3i s n t (d * base) (by omega) (by omega) (by omega) (by omega)
  unfold validB at hv
  simp only [decide_eq_true_eq] at hv
  obtain ⟨_, v1, _, v2, v3, v4, _, v5, v6⟩ := hv
  have v7 : decide (0 ≤ t ∧ t ≤ 1048576) = true := by simp; omega
  have v8 : decide (base = 360 ∨ base = 365) = true := by simp; omega
  have v9 : 360 ≤ base := by omega
  have v10 : base ≤ 365 := by omega
  clear v6
  have g1 := gpos s (d * base) (by omega)
  have b1 := divG_pos s (d * base) (by omega)
  have b1' := div_bd (d * base) (G s (d * base)) (by omega) g1
  have a1 := div_bd s (G s (d * base)) (by omega) g1
  have g2 := gpos n (d * base / G s (d * base)) (by omega)
  have b2 := divG_pos n (d * base / G s (d * base)) (by omega)
  have b2' := div_bd (d * base / G s (d * base)) (G n (d * base / G s (d * base))) (by omega) g2
  have a2 := div_bd n (G n (d * base / G s (d * base))) (by omega) g2
  have g3 := gpos t (d * base / G s (d * base) / G n (d * base / G s (d * base))) (by omega)
  have b3 := divG_pos t (d * base / G s (d * base) / G n (d * base / G s (d * base))) (by omega)
  have b3' := div_bd (d * base / G s (d * base) / G n (d * base / G s (d * base))) (G t (d * base / G s (d * base) / G n (d * base / G s (d * base)))) (by omega) g3
  have a3 := div_bd t (G t (d * base / G s (d * base) / G n (d * base / G s (d * base)))) (by omega) g3
  have m2 : s / G s (d * base) * (n / G n (d * base / G s (d * base))) ≤ 1099511627776 * 1048576 := Int.mul_le_mul (by omega) (by omega) (by omega) (by omega)
  have m2' : 0 ≤ s / G s (d * base) * (n / G n (d * base / G s (d * base))) := Int.mul_nonneg a1.1 a2.1
  have m3 : s / G s (d * base) * (n / G n (d * base / G s (d * base))) * (t / G t (d * base / G s (d * base) / G n (d * base / G s (d * base)))) ≤ 9223372036854775807 := by
    have := hst.1
    unfold intN at hN
    omega
  have H := Lib.hid hst
  clear hst
  have s0 : (s == 0) = false := by simp; omega
  have n0 : (n == 0) = false := by simp; omega
  have t0 : (t == 0) = false := by simp; omega
  go_enter Try.func6, Try.ntmps6
  go_wp2_with (first | (go_at_call 12; refine (c_right _ _).mono ?_; rintro e w' ⟨rfl, rfl⟩) | (go_at_call 13; refine (c_based _ _).mono ?_; rintro e w' ⟨rfl, rfl⟩))
  refine wp_loop_rounds 4 ?_
  iterate 3 (rw [rounds_succ]; go_wp2_with (first | (go_at_call 14; refine (c_divisor _ _ _ (by omega) (by omega)).mono ?_; rintro e w' ⟨rfl, k, rfl⟩) | (go_at_call 15; refine (c_times _ _ _ (by omega) (by omega) (by omega) (by omega) (by omega)).mono ?_; rintro e w' ⟨rfl, rfl⟩)))
  rw [rounds_succ]
  go_wp2
  refine bodyPost_ret (v := .tuple #[.agg #[.int .i64 (s / G s (d * base) * (n / G n (d * base / G s (d * base))) * (t / G t (d * base / G s (d * base) / G n (d * base / G s (d * base))))), .int .i64 (d * base / G s (d * base) / G n (d * base / G s (d * base)) / G t (d * base / G s (d * base) / G n (d * base / G s (d * base))))], .bool true]) (by simp [results, Try.results6, go_sem]) rfl ⟨?_, ?_⟩
  · rw [H.out.1, H.out.2]; rfl
  · repeat' (first | (with_reducible exact Below.refl _ _) | (with_reducible assumption) | (with_reducible refine below_drewN ?_ _) | (with_reducible refine Below.drew ?_) | (with_reducible refine Below.alloc ?_ ?_ _) | (with_reducible refine Below.setCell ?_ ?_ _) | go_size)

set_option maxHeartbeats 1600000 in
theorem c_interest_z1 (s n d t base : Int) (w : World) (hv : validB s n d t base = true) (hs : s = 0) :
    Calls Try.prog 6 #[.int .i64 s, .agg #[.int .i64 n, .int .i64 d], .int .i64 t, .int .i64 base] w fun e w' =>
      e = .returned (.tuple #[.agg #[.int .i64 0, .int .i64 1], .bool true]) ∧ Below w.heap.size w w' := by
  have hD := valid_D hv
  unfold validB at hv
  simp only [decide_eq_true_eq] at hv
  obtain ⟨v0, v1, v20, v2, v3, v4, v50, v5, v6⟩ := hv
  have v7 : decide (0 ≤ t ∧ t ≤ 1048576) = true := by simp; omega
  have v8 : decide (base = 360 ∨ base = 365) = true := by simp; omega
  have v9 : 360 ≤ base := by omega
  have v10 : base ≤ 365 := by omega
  clear v6
  subst hs
  go_enter Try.func6, Try.ntmps6
  go_wp2_with (first | (go_at_call 12; refine (c_right _ _).mono ?_; rintro e w' ⟨rfl, rfl⟩) | (go_at_call 13; refine (c_based _ _).mono ?_; rintro e w' ⟨rfl, rfl⟩))
  refine wp_loop_rounds 2 ?_
  iterate 1 (rw [rounds_succ]; go_wp2_with (first | (go_at_call 14; refine (c_divisor _ _ _ (by omega) (by omega)).mono ?_; rintro e w' ⟨rfl, k, rfl⟩) | (go_at_call 15; refine (c_times _ _ _ (by omega) (by omega) (by omega) (by omega) (by omega)).mono ?_; rintro e w' ⟨rfl, rfl⟩)))
  refine bodyPost_ret (v := .tuple #[.agg #[.int .i64 0, .int .i64 1], .bool true]) (by simp [results, Try.results6, go_sem]) rfl ⟨rfl, (by go_grown)⟩

set_option maxHeartbeats 1600000 in
theorem c_interest_z2 (s n d t base : Int) (w : World) (hv : validB s n d t base = true) (hs : 1 ≤ s) (hn : n = 0) :
    Calls Try.prog 6 #[.int .i64 s, .agg #[.int .i64 n, .int .i64 d], .int .i64 t, .int .i64 base] w fun e w' =>
      e = .returned (.tuple #[.agg #[.int .i64 0, .int .i64 1], .bool true]) ∧ Below w.heap.size w w' := by
  have hD := valid_D hv
  unfold validB at hv
  simp only [decide_eq_true_eq] at hv
  obtain ⟨v0, v1, v20, v2, v3, v4, v50, v5, v6⟩ := hv
  have v7 : decide (0 ≤ t ∧ t ≤ 1048576) = true := by simp; omega
  have v8 : decide (base = 360 ∨ base = 365) = true := by simp; omega
  have v9 : 360 ≤ base := by omega
  have v10 : base ≤ 365 := by omega
  clear v6
  subst hn
  have g1 := gpos s (d * base) (by omega)
  have b1 := divG_pos s (d * base) (by omega)
  have b1' := div_bd (d * base) (G s (d * base)) (by omega) g1
  have a1 := div_bd s (G s (d * base)) (by omega) g1
  have s0 : (s == 0) = false := by simp; omega
  go_enter Try.func6, Try.ntmps6
  go_wp2_with (first | (go_at_call 12; refine (c_right _ _).mono ?_; rintro e w' ⟨rfl, rfl⟩) | (go_at_call 13; refine (c_based _ _).mono ?_; rintro e w' ⟨rfl, rfl⟩))
  refine wp_loop_rounds 3 ?_
  iterate 2 (rw [rounds_succ]; go_wp2_with (first | (go_at_call 14; refine (c_divisor _ _ _ (by omega) (by omega)).mono ?_; rintro e w' ⟨rfl, k, rfl⟩) | (go_at_call 15; refine (c_times _ _ _ (by omega) (by omega) (by omega) (by omega) (by omega)).mono ?_; rintro e w' ⟨rfl, rfl⟩)))
  refine bodyPost_ret (v := .tuple #[.agg #[.int .i64 0, .int .i64 1], .bool true]) (by simp [results, Try.results6, go_sem]) rfl ⟨rfl, ?_⟩
  repeat' (first | (with_reducible exact Below.refl _ _) | (with_reducible assumption) | (with_reducible refine below_drewN ?_ _) | (with_reducible refine Below.drew ?_) | (with_reducible refine Below.alloc ?_ ?_ _) | (with_reducible refine Below.setCell ?_ ?_ _) | go_size)

set_option maxHeartbeats 1600000 in
theorem c_interest_z3 (s n d t base : Int) (w : World) (hv : validB s n d t base = true) (hs : 1 ≤ s) (hn : 1 ≤ n) (ht : t = 0) :
    Calls Try.prog 6 #[.int .i64 s, .agg #[.int .i64 n, .int .i64 d], .int .i64 t, .int .i64 base] w fun e w' =>
      e = .returned (.tuple #[.agg #[.int .i64 0, .int .i64 1], .bool true]) ∧ Below w.heap.size w w' := by
  have hD := valid_D hv
  unfold validB at hv
  simp only [decide_eq_true_eq] at hv
  obtain ⟨v0, v1, v20, v2, v3, v4, v50, v5, v6⟩ := hv
  have v7 : decide (0 ≤ t ∧ t ≤ 1048576) = true := by simp; omega
  have v8 : decide (base = 360 ∨ base = 365) = true := by simp; omega
  have v9 : 360 ≤ base := by omega
  have v10 : base ≤ 365 := by omega
  clear v6
  subst ht
  have g1 := gpos s (d * base) (by omega)
  have b1 := divG_pos s (d * base) (by omega)
  have b1' := div_bd (d * base) (G s (d * base)) (by omega) g1
  have a1 := div_bd s (G s (d * base)) (by omega) g1
  have s0 : (s == 0) = false := by simp; omega
  have g2 := gpos n (d * base / G s (d * base)) (by omega)
  have b2 := divG_pos n (d * base / G s (d * base)) (by omega)
  have b2' := div_bd (d * base / G s (d * base)) (G n (d * base / G s (d * base))) (by omega) g2
  have a2 := div_bd n (G n (d * base / G s (d * base))) (by omega) g2
  have m2 : s / G s (d * base) * (n / G n (d * base / G s (d * base))) ≤ 1099511627776 * 1048576 := Int.mul_le_mul (by omega) (by omega) (by omega) (by omega)
  have m2' : 0 ≤ s / G s (d * base) * (n / G n (d * base / G s (d * base))) := Int.mul_nonneg a1.1 a2.1
  have n0 : (n == 0) = false := by simp; omega
  go_enter Try.func6, Try.ntmps6
  go_wp2_with (first | (go_at_call 12; refine (c_right _ _).mono ?_; rintro e w' ⟨rfl, rfl⟩) | (go_at_call 13; refine (c_based _ _).mono ?_; rintro e w' ⟨rfl, rfl⟩))
  refine wp_loop_rounds 4 ?_
  iterate 3 (rw [rounds_succ]; go_wp2_with (first | (go_at_call 14; refine (c_divisor _ _ _ (by omega) (by omega)).mono ?_; rintro e w' ⟨rfl, k, rfl⟩) | (go_at_call 15; refine (c_times _ _ _ (by omega) (by omega) (by omega) (by omega) (by omega)).mono ?_; rintro e w' ⟨rfl, rfl⟩)))
  refine bodyPost_ret (v := .tuple #[.agg #[.int .i64 0, .int .i64 1], .bool true]) (by simp [results, Try.results6, go_sem]) rfl ⟨rfl, ?_⟩
  repeat' (first | (with_reducible exact Below.refl _ _) | (with_reducible assumption) | (with_reducible refine below_drewN ?_ _) | (with_reducible refine Below.drew ?_) | (with_reducible refine Below.alloc ?_ ?_ _) | (with_reducible refine Below.setCell ?_ ?_ _) | go_size)

set_option maxHeartbeats 1600000 in
theorem c_interest_over (s n d t base : Int) (w : World) (hv : validB s n d t base = true) (hs : 1 ≤ s) (hn : 1 ≤ n) (ht : 1 ≤ t) (hN : 9223372036854775807 < intN s n d t base) :
    Calls Try.prog 6 #[.int .i64 s, .agg #[.int .i64 n, .int .i64 d], .int .i64 t, .int .i64 base] w fun e w' =>
      e = .returned (.tuple #[.agg #[.int .i64 0, .int .i64 0], .bool false]) ∧ Below w.heap.size w w' := by
  have hD := valid_D hv
  have hst := steps3i s n t (d * base) (by omega) (by omega) (by omega) (by omega)
  unfold validB at hv
  simp only [decide_eq_true_eq] at hv
  obtain ⟨_, v1, _, v2, v3, v4, _, v5, v6⟩ := hv
  have v7 : decide (0 ≤ t ∧ t ≤ 1048576) = true := by simp; omega
  have v8 : decide (base = 360 ∨ base = 365) = true := by simp; omega
  have v9 : 360 ≤ base := by omega
  have v10 : base ≤ 365 := by omega
  clear v6
  have g1 := gpos s (d * base) (by omega)
  have b1 := divG_pos s (d * base) (by omega)
  have b1' := div_bd (d * base) (G s (d * base)) (by omega) g1
  have a1 := div_bd s (G s (d * base)) (by omega) g1
  have g2 := gpos n (d * base / G s (d * base)) (by omega)
  have b2 := divG_pos n (d * base / G s (d * base)) (by omega)
  have b2' := div_bd (d * base / G s (d * base)) (G n (d * base / G s (d * base))) (by omega) g2
  have a2 := div_bd n (G n (d * base / G s (d * base))) (by omega) g2
  have g3 := gpos t (d * base / G s (d * base) / G n (d * base / G s (d * base))) (by omega)
  have b3 := divG_pos t (d * base / G s (d * base) / G n (d * base / G s (d * base))) (by omega)
  have b3' := div_bd (d * base / G s (d * base) / G n (d * base / G s (d * base))) (G t (d * base / G s (d * base) / G n (d * base / G s (d * base)))) (by omega) g3
  have a3 := div_bd t (G t (d * base / G s (d * base) / G n (d * base / G s (d * base)))) (by omega) g3
  have m2 : s / G s (d * base) * (n / G n (d * base / G s (d * base))) ≤ 1099511627776 * 1048576 := Int.mul_le_mul (by omega) (by omega) (by omega) (by omega)
  have m2' : 0 ≤ s / G s (d * base) * (n / G n (d * base / G s (d * base))) := Int.mul_nonneg a1.1 a2.1
  have m3 : s / G s (d * base) * (n / G n (d * base / G s (d * base))) * (t / G t (d * base / G s (d * base) / G n (d * base / G s (d * base)))) > 9223372036854775807 := by
    have := hst.1
    unfold intN at hN
    omega
  clear hst
  have s0 : (s == 0) = false := by simp; omega
  have n0 : (n == 0) = false := by simp; omega
  have t0 : (t == 0) = false := by simp; omega
  go_enter Try.func6, Try.ntmps6
  go_wp2_with (first | (go_at_call 12; refine (c_right _ _).mono ?_; rintro e w' ⟨rfl, rfl⟩) | (go_at_call 13; refine (c_based _ _).mono ?_; rintro e w' ⟨rfl, rfl⟩))
  refine wp_loop_rounds 4 ?_
  iterate 2 (rw [rounds_succ]; go_wp2_with (first | (go_at_call 14; refine (c_divisor _ _ _ (by omega) (by omega)).mono ?_; rintro e w' ⟨rfl, k, rfl⟩) | (go_at_call 15; refine (c_times _ _ _ (by omega) (by omega) (by omega) (by omega) (by omega)).mono ?_; rintro e w' ⟨rfl, rfl⟩)))
  rw [rounds_succ]
  go_wp2_with (first | (go_at_call 14; refine (c_divisor _ _ _ (by omega) (by omega)).mono ?_; rintro e w' ⟨rfl, k, rfl⟩) | (go_at_call 15; refine (c_times_no _ _ _ (by omega) (by omega) (by omega) (by omega) (by omega)).mono ?_; rintro e w' ⟨rfl, rfl⟩))
  refine bodyPost_ret (v := .tuple #[.agg #[.int .i64 0, .int .i64 0], .bool false]) (by simp [results, Try.results6, go_sem]) rfl ⟨rfl, ?_⟩
  repeat' (first | (with_reducible exact Below.refl _ _) | (with_reducible assumption) | (with_reducible refine below_drewN ?_ _) | (with_reducible refine Below.drew ?_) | (with_reducible refine Below.alloc ?_ ?_ _) | (with_reducible refine Below.setCell ?_ ?_ _) | go_size)

end Go.Proofs.Ytagdibogjlmgmab
