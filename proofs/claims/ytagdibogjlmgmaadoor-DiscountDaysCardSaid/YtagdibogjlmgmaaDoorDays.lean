/-
  discount.Days, the document's days, and the law DiscountDays: their walks.
-/
import Derived.Test.YtagdibogjlmgmaaDoorDay
namespace Go.Proofs.YtagdibogjlmgmaaDoor
set_option linter.unusedVariables false
set_option linter.unusedSimpArgs false
open Go.RowKit

def cnt (n : Int) : Int := 360 * dY n + 30 * (dK n + 1) + min (dD n + 1) 30
set_option maxHeartbeats 400000 in
theorem c_count (n : Int) (w : World) (h0 : 0 ≤ n) (h1 : n ≤ 1048576) (T : Tab w) : Calls Tryd.prog 11 #[.int .i64 n] w fun e w' => e = .returned (.int .i64 (cnt n)) ∧ w = w' := by
  obtain ⟨b1, b2, b3, b4, b5, b6, b7⟩ := day_bd n h0 h1
  go_enter Tryd.func11, Tryd.ntmps11
  go_wp2_with (go_at_call 17; refine (c_month n _ h0 h1 T).mono ?_; rintro e w' ⟨rfl, rfl⟩)
  all_goals
    go_ret
    exact ⟨ret_i (by unfold cnt; omega), rfl⟩

theorem cnt_bd (n : Int) (h0 : 0 ≤ n) (h1 : n ≤ 1048576) : 0 ≤ cnt n ∧ cnt n ≤ 2000000 := by
  obtain ⟨b1, b2, b3, b4, b5, b6, b7⟩ := day_bd n h0 h1
  unfold cnt
  omega

set_option maxHeartbeats 400000 in
theorem c_days_no0 (a b base : Int) (w : World) (T : Tab w) (k0 : decide (0 ≤ a ∧ a ≤ 1048576) = false) : Calls Tryd.prog 5 #[.int .i64 a, .int .i64 b, .int .i64 base] w fun e w' => e = .returned (.tuple #[.int .i64 0, .bool false]) ∧ w = w' := by
  go_enter Tryd.func5, Tryd.ntmps5
  go_wp2_with (first | (go_at_call 9; refine (c_right _ _).mono ?_; rintro e w' ⟨rfl, rfl⟩) | (go_at_call 10; refine (c_based _ _).mono ?_; rintro e w' ⟨rfl, rfl⟩) | (go_at_call 11; refine (c_count _ _ (by omega) (by omega) T).mono ?_; rintro e w' ⟨rfl, rfl⟩))
  go_ret2
  exact ⟨rfl, rfl⟩

set_option maxHeartbeats 400000 in
theorem c_days_no1 (a b base : Int) (w : World) (T : Tab w) (k0 : decide (0 ≤ a ∧ a ≤ 1048576) = true) (k1 : decide (0 ≤ b ∧ b ≤ 1048576) = false) : Calls Tryd.prog 5 #[.int .i64 a, .int .i64 b, .int .i64 base] w fun e w' => e = .returned (.tuple #[.int .i64 0, .bool false]) ∧ w = w' := by
  go_enter Tryd.func5, Tryd.ntmps5
  go_wp2_with (first | (go_at_call 9; refine (c_right _ _).mono ?_; rintro e w' ⟨rfl, rfl⟩) | (go_at_call 10; refine (c_based _ _).mono ?_; rintro e w' ⟨rfl, rfl⟩) | (go_at_call 11; refine (c_count _ _ (by omega) (by omega) T).mono ?_; rintro e w' ⟨rfl, rfl⟩))
  go_ret2
  exact ⟨rfl, rfl⟩

set_option maxHeartbeats 400000 in
theorem c_days_no2 (a b base : Int) (w : World) (T : Tab w) (k0 : decide (0 ≤ a ∧ a ≤ 1048576) = true) (k1 : decide (0 ≤ b ∧ b ≤ 1048576) = true) (k2 : b < a) : Calls Tryd.prog 5 #[.int .i64 a, .int .i64 b, .int .i64 base] w fun e w' => e = .returned (.tuple #[.int .i64 0, .bool false]) ∧ w = w' := by
  go_enter Tryd.func5, Tryd.ntmps5
  go_wp2_with (first | (go_at_call 9; refine (c_right _ _).mono ?_; rintro e w' ⟨rfl, rfl⟩) | (go_at_call 10; refine (c_based _ _).mono ?_; rintro e w' ⟨rfl, rfl⟩) | (go_at_call 11; refine (c_count _ _ (by omega) (by omega) T).mono ?_; rintro e w' ⟨rfl, rfl⟩))
  go_ret2
  exact ⟨rfl, rfl⟩

set_option maxHeartbeats 400000 in
theorem c_days_no3 (a b base : Int) (w : World) (T : Tab w) (k0 : decide (0 ≤ a ∧ a ≤ 1048576) = true) (k1 : decide (0 ≤ b ∧ b ≤ 1048576) = true) (k2 : a ≤ b) (k3 : decide (base = 360 ∨ base = 365) = false) (k4 : (base == 360) = false) (k5 : (base == 365) = false) : Calls Tryd.prog 5 #[.int .i64 a, .int .i64 b, .int .i64 base] w fun e w' => e = .returned (.tuple #[.int .i64 0, .bool false]) ∧ w = w' := by
  have k6 : (base != 360) = true := by simpa using k4
  have k7 : (base != 365) = true := by simpa using k5
  go_enter Tryd.func5, Tryd.ntmps5
  go_wp2_with (first | (go_at_call 9; refine (c_right _ _).mono ?_; rintro e w' ⟨rfl, rfl⟩) | (go_at_call 10; refine (c_based _ _).mono ?_; rintro e w' ⟨rfl, rfl⟩) | (go_at_call 11; refine (c_count _ _ (by omega) (by omega) T).mono ?_; rintro e w' ⟨rfl, rfl⟩))
  go_ret2
  exact ⟨rfl, rfl⟩

set_option maxHeartbeats 800000 in
theorem c_days_365 (a b : Int) (w : World) (T : Tab w) (h0 : 0 ≤ a) (h1 : a ≤ 1048576) (h2 : 0 ≤ b) (h3 : b ≤ 1048576) (k0 : decide (0 ≤ a ∧ a ≤ 1048576) = true) (k1 : decide (0 ≤ b ∧ b ≤ 1048576) = true) (k2 : a ≤ b) : Calls Tryd.prog 5 #[.int .i64 a, .int .i64 b, .int .i64 365] w fun e w' => e = .returned (.tuple #[.int .i64 (b - a), .bool true]) ∧ w = w' := by
  go_enter Tryd.func5, Tryd.ntmps5
  go_wp2_with (first | (go_at_call 9; refine (c_right _ _).mono ?_; rintro e w' ⟨rfl, rfl⟩) | (go_at_call 10; refine (c_based _ _).mono ?_; rintro e w' ⟨rfl, rfl⟩) | (go_at_call 11; refine (c_count _ _ (by omega) (by omega) T).mono ?_; rintro e w' ⟨rfl, rfl⟩))
  go_ret2
  exact ⟨rfl, rfl⟩

set_option maxHeartbeats 800000 in
theorem c_days_360 (a b : Int) (w : World) (T : Tab w) (h0 : 0 ≤ a) (h1 : a ≤ 1048576) (h2 : 0 ≤ b) (h3 : b ≤ 1048576) (k0 : decide (0 ≤ a ∧ a ≤ 1048576) = true) (k1 : decide (0 ≤ b ∧ b ≤ 1048576) = true) (k2 : a ≤ b) : Calls Tryd.prog 5 #[.int .i64 a, .int .i64 b, .int .i64 360] w fun e w' => e = .returned (.tuple #[.int .i64 (cnt b - cnt a), .bool true]) ∧ w = w' := by
  have q1 := cnt_bd a (by omega) (by omega)
  have q2 := cnt_bd b (by omega) (by omega)
  obtain ⟨b1, b2, b3, b4, b5, b6, b7⟩ := day_bd a (by omega) (by omega)
  obtain ⟨d1, d2, d3, d4, d5, d6, d7⟩ := day_bd b (by omega) (by omega)
  go_enter Tryd.func5, Tryd.ntmps5
  go_wp2_with (first | (go_at_call 9; refine (c_right _ _).mono ?_; rintro e w' ⟨rfl, rfl⟩) | (go_at_call 10; refine (c_based _ _).mono ?_; rintro e w' ⟨rfl, rfl⟩) | (go_at_call 11; refine (c_count _ _ (by omega) (by omega) T).mono ?_; rintro e w' ⟨rfl, rfl⟩))
  go_ret2
  exact ⟨rfl, rfl⟩

set_option maxHeartbeats 400000 in
theorem c_daysR_no0 (a b base : Int) (w : World) (k0 : decide (0 ≤ a ∧ a ≤ 1048576) = false) : Calls Tryd.prog 6 #[.int .i64 a, .int .i64 b, .int .i64 base] w fun e w' => e = .returned (.tuple #[.int .i64 0, .bool false]) ∧ w = w' := by
  go_enter Tryd.func6, Tryd.ntmps6
  go_wp2_with (first | (go_at_call 12; refine (c_isR _ _).mono ?_; rintro e w' ⟨rfl, rfl⟩) | (go_at_call 13; refine (c_monthR _ _ (by omega) (by omega)).mono ?_; rintro e w' ⟨rfl, rfl⟩))
  go_ret2
  exact ⟨rfl, rfl⟩

set_option maxHeartbeats 400000 in
theorem c_daysR_no1 (a b base : Int) (w : World) (k0 : decide (0 ≤ a ∧ a ≤ 1048576) = true) (k1 : decide (0 ≤ b ∧ b ≤ 1048576) = false) : Calls Tryd.prog 6 #[.int .i64 a, .int .i64 b, .int .i64 base] w fun e w' => e = .returned (.tuple #[.int .i64 0, .bool false]) ∧ w = w' := by
  go_enter Tryd.func6, Tryd.ntmps6
  go_wp2_with (first | (go_at_call 12; refine (c_isR _ _).mono ?_; rintro e w' ⟨rfl, rfl⟩) | (go_at_call 13; refine (c_monthR _ _ (by omega) (by omega)).mono ?_; rintro e w' ⟨rfl, rfl⟩))
  go_ret2
  exact ⟨rfl, rfl⟩

set_option maxHeartbeats 400000 in
theorem c_daysR_no2 (a b base : Int) (w : World) (k0 : decide (0 ≤ a ∧ a ≤ 1048576) = true) (k1 : decide (0 ≤ b ∧ b ≤ 1048576) = true) (k2 : b < a) : Calls Tryd.prog 6 #[.int .i64 a, .int .i64 b, .int .i64 base] w fun e w' => e = .returned (.tuple #[.int .i64 0, .bool false]) ∧ w = w' := by
  go_enter Tryd.func6, Tryd.ntmps6
  go_wp2_with (first | (go_at_call 12; refine (c_isR _ _).mono ?_; rintro e w' ⟨rfl, rfl⟩) | (go_at_call 13; refine (c_monthR _ _ (by omega) (by omega)).mono ?_; rintro e w' ⟨rfl, rfl⟩))
  go_ret2
  exact ⟨rfl, rfl⟩

set_option maxHeartbeats 400000 in
theorem c_daysR_no3 (a b base : Int) (w : World) (k0 : decide (0 ≤ a ∧ a ≤ 1048576) = true) (k1 : decide (0 ≤ b ∧ b ≤ 1048576) = true) (k2 : a ≤ b) (k3 : decide (base = 360 ∨ base = 365) = false) (k4 : (base == 360) = false) (k5 : (base == 365) = false) : Calls Tryd.prog 6 #[.int .i64 a, .int .i64 b, .int .i64 base] w fun e w' => e = .returned (.tuple #[.int .i64 0, .bool false]) ∧ w = w' := by
  have k6 : (base != 360) = true := by simpa using k4
  have k7 : (base != 365) = true := by simpa using k5
  go_enter Tryd.func6, Tryd.ntmps6
  go_wp2_with (first | (go_at_call 12; refine (c_isR _ _).mono ?_; rintro e w' ⟨rfl, rfl⟩) | (go_at_call 13; refine (c_monthR _ _ (by omega) (by omega)).mono ?_; rintro e w' ⟨rfl, rfl⟩))
  go_ret2
  exact ⟨rfl, rfl⟩

set_option maxHeartbeats 800000 in
theorem c_daysR_365 (a b : Int) (w : World) (h0 : 0 ≤ a) (h1 : a ≤ 1048576) (h2 : 0 ≤ b) (h3 : b ≤ 1048576) (k0 : decide (0 ≤ a ∧ a ≤ 1048576) = true) (k1 : decide (0 ≤ b ∧ b ≤ 1048576) = true) (k2 : a ≤ b) : Calls Tryd.prog 6 #[.int .i64 a, .int .i64 b, .int .i64 365] w fun e w' => e = .returned (.tuple #[.int .i64 (b - a), .bool true]) ∧ w = w' := by
  go_enter Tryd.func6, Tryd.ntmps6
  go_wp2_with (first | (go_at_call 12; refine (c_isR _ _).mono ?_; rintro e w' ⟨rfl, rfl⟩) | (go_at_call 13; refine (c_monthR _ _ (by omega) (by omega)).mono ?_; rintro e w' ⟨rfl, rfl⟩))
  go_ret2
  exact ⟨rfl, rfl⟩

theorem ret_ib {a a' : Int} (h1 : a = a') : Ending.returned (.tuple #[.int .i64 a, .bool true]) = .returned (.tuple #[.int .i64 a', .bool true]) := by rw [h1]
set_option maxHeartbeats 800000 in
theorem c_daysR_360 (a b : Int) (w : World) (h0 : 0 ≤ a) (h1 : a ≤ 1048576) (h2 : 0 ≤ b) (h3 : b ≤ 1048576) (k0 : decide (0 ≤ a ∧ a ≤ 1048576) = true) (k1 : decide (0 ≤ b ∧ b ≤ 1048576) = true) (k2 : a ≤ b) : Calls Tryd.prog 6 #[.int .i64 a, .int .i64 b, .int .i64 360] w fun e w' => e = .returned (.tuple #[.int .i64 (cnt b - cnt a), .bool true]) ∧ w = w' := by
  have q1 := cnt_bd a (by omega) (by omega)
  have q2 := cnt_bd b (by omega) (by omega)
  obtain ⟨b1, b2, b3, b4, b5, b6, b7⟩ := day_bd a (by omega) (by omega)
  obtain ⟨d1, d2, d3, d4, d5, d6, d7⟩ := day_bd b (by omega) (by omega)
  go_enter Tryd.func6, Tryd.ntmps6
  go_wp2_with (first | (go_at_call 12; refine (c_isR _ _).mono ?_; rintro e w' ⟨rfl, rfl⟩) | (go_at_call 13; refine (c_monthR _ _ (by omega) (by omega)).mono ?_; rintro e w' ⟨rfl, rfl⟩))
  all_goals
    go_ret2
    exact ⟨by unfold cnt; exact ret_ib (by omega), rfl⟩

/-- The law, by what both sides answer. -/
theorem l_days_of (a b base x : Int) (ok : Bool) (w : World) (T : Tab w) (hg : 0 < w.heap.size)
    (h1 : ∀ w, Tab w → Calls Tryd.prog 5 #[.int .i64 a, .int .i64 b, .int .i64 base] w fun e w' => e = .returned (.tuple #[.int .i64 x, .bool ok]) ∧ w = w')
    (h2 : ∀ w, Calls Tryd.prog 6 #[.int .i64 a, .int .i64 b, .int .i64 base] w fun e w' => e = .returned (.tuple #[.int .i64 x, .bool ok]) ∧ w = w') :
    Calls Tryd.prog 3 #[.int .i64 a, .int .i64 b, .int .i64 base] w fun e w' => e = .returned (.bool true) ∧ Below w.heap.size w w' := by
  have H1 := Lib.hid h1
  have H2 := Lib.hid h2
  clear h1 h2
  cases ok <;>
  · go_enter Tryd.func3, Tryd.ntmps3
    go_wp2_with (first | (go_at_call 4; refine (c_awake39 _).mono ?_; rintro e w1 ⟨rfl, hb⟩; have T1 := T.kept hb hg) | (go_at_call 5; refine (H1.out _ T1).mono ?_; rintro e w2 ⟨rfl, rfl⟩) | (go_at_call 6; refine (H2.out _).mono ?_; rintro e w2 ⟨rfl, rfl⟩))
    go_ret
    exact ⟨rfl, hb⟩

theorem l_days (a b base : Int) (w : World) (T : Tab w) (hg : 0 < w.heap.size) :
    Calls Tryd.prog 3 #[.int .i64 a, .int .i64 b, .int .i64 base] w fun e w' => e = .returned (.bool true) ∧ Below w.heap.size w w' := by
  by_cases k0 : 0 ≤ a ∧ a ≤ 1048576
  · by_cases k1 : 0 ≤ b ∧ b ≤ 1048576
    · by_cases k2 : a ≤ b
      · by_cases k3 : base = 360
        · subst k3
          exact l_days_of a b 360 _ _ w T hg (fun w T => c_days_360 a b w T k0.1 k0.2 k1.1 k1.2 (decide_eq_true k0) (decide_eq_true k1) k2) (fun w => c_daysR_360 a b w k0.1 k0.2 k1.1 k1.2 (decide_eq_true k0) (decide_eq_true k1) k2)
        · by_cases k4 : base = 365
          · subst k4
            exact l_days_of a b 365 _ _ w T hg (fun w T => c_days_365 a b w T k0.1 k0.2 k1.1 k1.2 (decide_eq_true k0) (decide_eq_true k1) k2) (fun w => c_daysR_365 a b w k0.1 k0.2 k1.1 k1.2 (decide_eq_true k0) (decide_eq_true k1) k2)
          · exact l_days_of a b base _ _ w T hg (fun w T => c_days_no3 a b base w T (decide_eq_true k0) (decide_eq_true k1) k2 (decide_eq_false (by omega)) (by simpa using k3) (by simpa using k4)) (fun w => c_daysR_no3 a b base w (decide_eq_true k0) (decide_eq_true k1) k2 (decide_eq_false (by omega)) (by simpa using k3) (by simpa using k4))
      · exact l_days_of a b base _ _ w T hg (fun w T => c_days_no2 a b base w T (decide_eq_true k0) (decide_eq_true k1) (by omega)) (fun w => c_daysR_no2 a b base w (decide_eq_true k0) (decide_eq_true k1) (by omega))
    · exact l_days_of a b base _ _ w T hg (fun w T => c_days_no1 a b base w T (decide_eq_true k0) (decide_eq_false k1)) (fun w => c_daysR_no1 a b base w (decide_eq_true k0) (decide_eq_false k1))
  · exact l_days_of a b base _ _ w T hg (fun w T => c_days_no0 a b base w T (decide_eq_false k0)) (fun w => c_daysR_no0 a b base w (decide_eq_false k0))

end Go.Proofs.YtagdibogjlmgmaaDoor
