/-
  The walks of the functions of days: year, month, day of the month.
-/
import Derived.Test.YtagdibogjlmgmaaDoorA3
import Derived.Test.YtagdibogjlmgmaaDoorDayNum
namespace Go.Proofs.YtagdibogjlmgmaaDoor
set_option linter.unusedVariables false
set_option linter.unusedSimpArgs false
open Go.RowKit

theorem ret_t3 {a b c a' b' c' : Int} (h1 : a = a') (h2 : b = b') (h3 : c = c') : Ending.returned (.tuple #[.int .i64 a, .int .i64 b, .int .i64 c]) = .returned (.tuple #[.int .i64 a', .int .i64 b', .int .i64 c']) := by rw [h1, h2, h3]

/-- The table of the months. -/
def Tab (w : World) : Prop := ∀ k, k < 12 → w.cell? ⟨0, k, none⟩ = some (.int .i64 (mlen false k))
theorem Tab.kept {w w' : World} (h : Tab w) (hb : Below w.heap.size w w') (h1 : 0 < w.heap.size) : Tab w' := fun k hk => (hb.cell (p := ⟨0, k, none⟩) h1).trans (h k hk)

set_option maxHeartbeats 400000 in
theorem c_leap (y : Int) (w : World) (h0 : 0 ≤ y) : Calls Tryd.prog 25 #[.int .i64 y] w fun e w' => e = .returned (.bool (lpB y)) ∧ w = w' := by
  go_enter Tryd.func25, Tryd.ntmps25
  go_wp2
  all_goals (go_ret; exact ⟨ret_b (by unfold lpB; apply Bool.eq_iff_iff.2; simp at *; try omega), rfl⟩)

set_option maxHeartbeats 400000 in
theorem c_leapR (y : Int) (w : World) (h0 : 0 ≤ y) : Calls Tryd.prog 24 #[.int .i64 y] w fun e w' => e = .returned (.bool (lpB y)) ∧ w = w' := by
  go_enter Tryd.func24, Tryd.ntmps24
  go_wp2
  all_goals (go_ret; exact ⟨ret_b (by unfold lpB; apply Bool.eq_iff_iff.2; simp at *; try omega), rfl⟩)

set_option maxHeartbeats 400000 in
theorem c_ylen (y : Int) (w : World) (h0 : 0 ≤ y) : Calls Tryd.prog 22 #[.int .i64 y] w fun e w' => e = .returned (.int .i64 (ylen y)) ∧ w = w' := by
  have hc := c_leap y
  unfold ylen
  cases h : lpB y
  all_goals
    rw [h] at hc
    have HC := Lib.hid hc
    clear hc h
    go_enter Tryd.func22, Tryd.ntmps22
    go_wp2_with (go_at_call 25; refine (HC.out _ h0).mono ?_; rintro e w' ⟨rfl, rfl⟩)
    go_ret
    exact ⟨rfl, rfl⟩

set_option maxHeartbeats 400000 in
theorem c_ylenR (y : Int) (w : World) (h0 : 0 ≤ y) : Calls Tryd.prog 18 #[.int .i64 y] w fun e w' => e = .returned (.int .i64 (ylen y)) ∧ w = w' := by
  have hc := c_leapR y
  unfold ylen
  cases h : lpB y
  all_goals
    rw [h] at hc
    have HC := Lib.hid hc
    clear hc h
    go_enter Tryd.func18, Tryd.ntmps18
    go_wp2_with (go_at_call 24; refine (HC.out _ h0).mono ?_; rintro e w' ⟨rfl, rfl⟩)
    go_ret
    exact ⟨rfl, rfl⟩

set_option maxHeartbeats 400000 in
theorem c_mlen (y : Int) (k : Nat) (w : World) (h0 : 0 ≤ y) (hk : k < 12) (T : Tab w) : Calls Tryd.prog 23 #[.int .i64 y, .int .i64 k] w fun e w' => e = .returned (.int .i64 (mlen (lpB y) k)) ∧ w = w' := by
  have hc := c_leap y
  have ht := T k hk
  by_cases h1 : k = 1
  · subst h1
    cases h : lpB y
    all_goals
      rw [h] at hc
      have HC := Lib.hid hc
      clear hc h
      have ht' : w.cell? ⟨0, 1, none⟩ = some (.int .i64 28) := ht
      clear ht
      go_enter Tryd.func23, Tryd.ntmps23
      go_wp2_with (go_at_call 25; refine (HC.out _ h0).mono ?_; rintro e w' ⟨rfl, rfl⟩)
      go_ret
      exact ⟨rfl, rfl⟩
  · have e : mlen (lpB y) k = mlen false k := mlen_ne _ _ h1
    rw [e]
    have h1' : ((k : Int) == 1) = false := by simp; omega
    clear h1 hc e
    generalize mlen false k = m at *
    go_enter Tryd.func23, Tryd.ntmps23
    go_wp2
    go_ret
    exact ⟨rfl, rfl⟩

set_option maxHeartbeats 400000 in
theorem c_mlenR (y : Int) (k : Nat) (w : World) (h0 : 0 ≤ y) (hk : k < 12) : Calls Tryd.prog 19 #[.int .i64 y, .int .i64 (k + 1)] w fun e w' => e = .returned (.int .i64 (mlen (lpB y) k)) ∧ w = w' := by
  have hc := c_leapR y
  cases h : lpB y
  all_goals
    rw [h] at hc
    have HC := Lib.hid hc
    clear hc h
    obtain rfl | rfl | rfl | rfl | rfl | rfl | rfl | rfl | rfl | rfl | rfl | rfl : k = 0 ∨ k = 1 ∨ k = 2 ∨ k = 3 ∨ k = 4 ∨ k = 5 ∨ k = 6 ∨ k = 7 ∨ k = 8 ∨ k = 9 ∨ k = 10 ∨ k = 11 := by omega
    all_goals
      go_enter Tryd.func19, Tryd.ntmps19
      go_wp2_with (go_at_call 24; refine (HC.out _ h0).mono ?_; rintro e w' ⟨rfl, rfl⟩)
      go_ret
      exact ⟨rfl, rfl⟩

set_option maxHeartbeats 400000 in
theorem c_is (n : Int) (w : World) : Calls Tryd.prog 21 #[.int .i64 n] w fun e w' => e = .returned (.bool (decide (0 ≤ n ∧ n ≤ 1048576))) ∧ w = w' := by
  go_enter Tryd.func21, Tryd.ntmps21
  go_wp2
  all_goals (go_ret; exact ⟨ret_b (Bool.eq_iff_iff.2 (by simp; try omega)), rfl⟩)
set_option maxHeartbeats 400000 in
theorem c_isR (n : Int) (w : World) : Calls Tryd.prog 12 #[.int .i64 n] w fun e w' => e = .returned (.bool (decide (0 ≤ n ∧ n ≤ 1048576))) ∧ w = w' := by
  go_enter Tryd.func12, Tryd.ntmps12
  go_wp2
  all_goals (go_ret; exact ⟨ret_b (Bool.eq_iff_iff.2 (by simp; try omega)), rfl⟩)

set_option maxHeartbeats 1600000 in
theorem c_month (n : Int) (w : World) (h0 : 0 ≤ n) (h1 : n ≤ 1048576) (T : Tab w) : Calls Tryd.prog 17 #[.int .i64 n] w fun e w' => e = .returned (.tuple #[.int .i64 (dY n), .int .i64 (dK n + 1), .int .i64 (dD n + 1)]) ∧ w = w' := by
  have hi := c_is n
  rw [decide_eq_true ⟨h0, h1⟩] at hi
  have HI := Lib.hid hi
  clear hi
  have hb := day_bd n h0 h1
  go_enter Tryd.func17, Tryd.ntmps17
  go_wp2_with (first | (go_at_call 21; refine (HI.out _).mono ?_; rintro e w' ⟨rfl, rfl⟩) | (go_at_call 22; refine (c_ylen _ _ (by omega)).mono ?_; rintro e w' ⟨rfl, rfl⟩))
  go_loop [0, 5] (fun x y => ∃ (f : Nat) (d z : Int), x = .int .i64 d ∧ y = .int .i64 z ∧ 0 ≤ d ∧ d < 365 * f ∧ d ≤ 1048576 ∧ z + f = 4874 ∧ 2000 ≤ z ∧ Hid (yf f z d = yf 2874 2000 n)) (fun x _ => (intOf x).toNat)
  case atStart => exact ⟨2874, n, 2000, rfl, rfl, h0, by omega, h1, by omega, by omega, rfl⟩
  case round =>
    obtain ⟨f, d, z, rfl, rfl, r1, r2, r3, r4, r5, r6⟩ := hrel
    have hl := ylen_bd z
    have R4 := Lib.hid r4
    have r4' : z ≤ 4874 := by omega
    clear r4
    by_cases hc : ylen z ≤ d
    · go_wp2_with (first | (go_at_call 21; refine (HI.out _).mono ?_; rintro e w' ⟨rfl, rfl⟩) | (go_at_call 22; refine (c_ylen _ _ (by omega)).mono ?_; rintro e w' ⟨rfl, rfl⟩))
      go_round
      case rel =>
        obtain ⟨g, rfl⟩ : ∃ g, f = g + 1 := ⟨f - 1, by omega⟩
        exact ⟨g, d - ylen z, z + 1, rfl, rfl, by omega, by omega, by omega, by have := R4.out; omega, by omega, (yf_on g z d hc).symm.trans r6.out⟩
      case measure => simp [intOf]; omega
    · have hy : z = dY n := by unfold dY; rw [← r6.out, yf_out f z d (by omega)]
      have hr : d = dR n := by unfold dR; rw [← r6.out, yf_out f z d (by omega)]
      subst hy hr
      clear r6 R4
      go_wp2_with (first | (go_at_call 21; refine (HI.out _).mono ?_; rintro e w' ⟨rfl, rfl⟩) | (go_at_call 22; refine (c_ylen _ _ (by omega)).mono ?_; rintro e w' ⟨rfl, rfl⟩))
      go_loop [0, 6] (fun x y => ∃ (k : Nat) (d : Int), x = .int .i64 d ∧ y = .int .i64 k ∧ k < 12 ∧ 0 ≤ d ∧ d ≤ 400 ∧ Hid (d < rest (lpB (dY n)) k) ∧ Hid (mf (lpB (dY n)) (12 - k) k d = mf (lpB (dY n)) 12 0 (dR n))) (fun x _ => (intOf x).toNat)
      case atStart => exact ⟨0, dR n, rfl, by simp, by omega, by omega, by have := rest_year (dY n); omega, hb.2.2.2.1, rfl⟩
      case round =>
        obtain ⟨k, d, rfl, rfl, s1, s2, s3, s4, s5⟩ := hrel
        have hm := rest_succ (lpB (dY n)) k s1
        have HM := Lib.hid hm.1
        obtain ⟨_, m1, m2⟩ := hm
        by_cases hk : mlen (lpB (dY n)) k ≤ d
        · have hk1 : k + 1 < 12 := by
            rcases Nat.lt_or_ge (k + 1) 12 with h | h
            · exact h
            · obtain rfl : k = 11 := by omega
              have := s4.out
              have := HM.out
              have : rest (lpB (dY n)) (11 + 1) = 0 := rest_end (lpB (dY n))
              omega
          go_wp2_with (go_at_call 23; refine (c_mlen _ k _ (by omega) (by omega) T).mono ?_; rintro e w' ⟨rfl, rfl⟩)
          go_round
          case rel => exact ⟨k + 1, _, rfl, by go_num, hk1, by omega, by omega, by have := s4.out; have := HM.out; show _ < _; omega, by
            have e := s5.out
            rw [show 12 - k = (12 - (k + 1)) + 1 from by omega, mf_on _ _ _ _ hk] at e
            exact e⟩
          case measure => simp [intOf]; omega
        · have e1 : k = dK n := by unfold dK; rw [← s5.out, mf_out _ _ _ _ (by omega)]
          have e2 : d = dD n := by unfold dD; rw [← s5.out, mf_out _ _ _ _ (by omega)]
          have E1 := Lib.hid e1
          have E2 := Lib.hid e2
          clear e1 e2 s5
          go_wp2_with (go_at_call 23; refine (c_mlen _ k _ (by omega) (by omega) T).mono ?_; rintro e w' ⟨rfl, rfl⟩)
          go_ret3
          exact ⟨ret_t3 rfl (by rw [E1.out]) (by rw [E2.out]), rfl⟩

set_option maxHeartbeats 1600000 in
theorem c_monthR (n : Int) (w : World) (h0 : 0 ≤ n) (h1 : n ≤ 1048576) : Calls Tryd.prog 13 #[.int .i64 n] w fun e w' => e = .returned (.tuple #[.int .i64 (dY n), .int .i64 (dK n + 1), .int .i64 (dD n + 1)]) ∧ w = w' := by
  have hb := day_bd n h0 h1
  go_enter Tryd.func13, Tryd.ntmps13
  go_wp2_with (first | (go_at_call 18; refine (c_ylenR _ _ (by omega)).mono ?_; rintro e w' ⟨rfl, rfl⟩))
  go_loop [0, 5] (fun x y => ∃ (f : Nat) (d z : Int), x = .int .i64 d ∧ y = .int .i64 z ∧ 0 ≤ d ∧ d < 365 * f ∧ d ≤ 1048576 ∧ z + f = 4874 ∧ 2000 ≤ z ∧ Hid (yf f z d = yf 2874 2000 n)) (fun x _ => (intOf x).toNat)
  case atStart => exact ⟨2874, n, 2000, rfl, rfl, h0, by omega, h1, by omega, by omega, rfl⟩
  case round =>
    obtain ⟨f, d, z, rfl, rfl, r1, r2, r3, r4, r5, r6⟩ := hrel
    have hl := ylen_bd z
    have R4 := Lib.hid r4
    have r4' : z ≤ 4874 := by omega
    clear r4
    by_cases hc : ylen z ≤ d
    · go_wp2_with (first | (go_at_call 18; refine (c_ylenR _ _ (by omega)).mono ?_; rintro e w' ⟨rfl, rfl⟩))
      go_round
      case rel =>
        obtain ⟨g, rfl⟩ : ∃ g, f = g + 1 := ⟨f - 1, by omega⟩
        exact ⟨g, d - ylen z, z + 1, rfl, rfl, by omega, by omega, by omega, by have := R4.out; omega, by omega, (yf_on g z d hc).symm.trans r6.out⟩
      case measure => simp [intOf]; omega
    · have hy : z = dY n := by unfold dY; rw [← r6.out, yf_out f z d (by omega)]
      have hr : d = dR n := by unfold dR; rw [← r6.out, yf_out f z d (by omega)]
      subst hy hr
      clear r6 R4
      go_wp2_with (first | (go_at_call 18; refine (c_ylenR _ _ (by omega)).mono ?_; rintro e w' ⟨rfl, rfl⟩))
      go_loop [0, 6] (fun x y => ∃ (k : Nat) (d : Int), x = .int .i64 d ∧ y = .int .i64 (k + 1) ∧ k < 12 ∧ 0 ≤ d ∧ d ≤ 400 ∧ Hid (d < rest (lpB (dY n)) k) ∧ Hid (mf (lpB (dY n)) (12 - k) k d = mf (lpB (dY n)) 12 0 (dR n))) (fun x _ => (intOf x).toNat)
      case atStart => exact ⟨0, dR n, rfl, by simp, by omega, by omega, by have := rest_year (dY n); omega, hb.2.2.2.1, rfl⟩
      case round =>
        obtain ⟨k, d, rfl, rfl, s1, s2, s3, s4, s5⟩ := hrel
        have hm := rest_succ (lpB (dY n)) k s1
        have HM := Lib.hid hm.1
        obtain ⟨_, m1, m2⟩ := hm
        by_cases hk : mlen (lpB (dY n)) k ≤ d
        · have hk1 : k + 1 < 12 := by
            rcases Nat.lt_or_ge (k + 1) 12 with h | h
            · exact h
            · obtain rfl : k = 11 := by omega
              have := s4.out
              have := HM.out
              have : rest (lpB (dY n)) (11 + 1) = 0 := rest_end (lpB (dY n))
              omega
          go_wp2_with (go_at_call 19; refine (c_mlenR _ k _ (by omega) (by omega)).mono ?_; rintro e w' ⟨rfl, rfl⟩)
          go_round
          case rel => exact ⟨k + 1, _, rfl, by go_num, hk1, by omega, by omega, by have := s4.out; have := HM.out; show _ < _; omega, by
            have e := s5.out
            rw [show 12 - k = (12 - (k + 1)) + 1 from by omega, mf_on _ _ _ _ hk] at e
            exact e⟩
          case measure => simp [intOf]; omega
        · have e1 : k = dK n := by unfold dK; rw [← s5.out, mf_out _ _ _ _ (by omega)]
          have e2 : d = dD n := by unfold dD; rw [← s5.out, mf_out _ _ _ _ (by omega)]
          have E1 := Lib.hid e1
          have E2 := Lib.hid e2
          clear e1 e2 s5
          go_wp2_with (go_at_call 19; refine (c_mlenR _ k _ (by omega) (by omega)).mono ?_; rintro e w' ⟨rfl, rfl⟩)
          go_ret3
          exact ⟨ret_t3 rfl (by rw [E1.out]) (by rw [E2.out]), rfl⟩

end Go.Proofs.YtagdibogjlmgmaaDoor
