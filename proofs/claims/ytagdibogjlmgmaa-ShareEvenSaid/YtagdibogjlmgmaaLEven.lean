/-
  The law ShareEven: its walk.
-/
import Derived.Test.YtagdibogjlmgmaaAwake4
import Derived.Test.YtagdibogjlmgmaaEven
import Derived.Test.YtagdibogjlmgmaaWf
namespace Go.Proofs.Ytagdibogjlmgmaa
set_option linter.unusedVariables false
set_option linter.unusedSimpArgs false
open Go.RowKit

set_option maxHeartbeats 800000 in
theorem l_even_many (T n : Int) (w : World) (h : 100 < n) :
    Calls Try.prog 13 #[.int .i64 T, .int .i64 n] w fun e w' => e = .returned (.bool true) ∧ Below w.heap.size w w' := by
  go_enter Try.func13, Try.ntmps13
  go_wp2_with fail
  refine (c_awake04 _).mono ?_
  rintro e w1 ⟨rfl, hb1⟩
  go_wp2_with fail
  refine (c_awake04 _).mono ?_
  rintro e w2 ⟨rfl, hb2⟩
  go_wp2_with fail
  go_ret
  exact ⟨rfl, hb1.trans (hb2.mono hb1.size)⟩

set_option maxHeartbeats 800000 in
theorem l_even_no (T n : Int) (w : World) (h : n < 1) :
    Calls Try.prog 13 #[.int .i64 T, .int .i64 n] w fun e w' => e = .returned (.bool true) ∧ Below w.heap.size w w' := by
  go_enter Try.func13, Try.ntmps13
  go_wp2_with fail
  refine (c_awake04 _).mono ?_
  rintro e w1 ⟨rfl, hb1⟩
  go_wp2_with fail
  refine (c_even_no T n _ (.inl h)).mono ?_
  rintro e w2 ⟨rfl, rfl⟩
  go_wp2_with fail
  go_ret
  exact ⟨rfl, hb1⟩

set_option maxHeartbeats 800000 in
theorem l_even_bad (T : Int) (n : Nat) (w : World) (h1 : 1 ≤ n) (h2 : n ≤ 100) (hT : T < 0 ∨ (0 ≤ T ∧ 1099511627776 < T)) :
    Calls Try.prog 13 #[.int .i64 T, .int .i64 (n : Int)] w fun e w' => e = .returned (.bool true) ∧ Below w.heap.size w w' := by
  have he : errS T (ones n) ≠ 0 := by
    rw [errS_ones T n h1 (by omega)]
    rcases hT with h | ⟨h, h'⟩
    · rw [if_pos h]; omega
    · rw [if_neg (by omega), if_pos h']; omega
  have HE := Lib.hid he
  clear he
  rcases hT with h | ⟨h, h'⟩
  all_goals
    go_enter Try.func13, Try.ntmps13
    go_wp2_with fail
    refine (c_awake04 _).mono ?_
    rintro e w1 ⟨rfl, hb1⟩
    have hz1 := hb1.size
    go_wp2_with fail
    refine (c_even_bad T n _ h1 (by omega) HE.out).mono ?_
    rintro e w2 ⟨rfl, hb2⟩
    go_wp2_with fail
    go_ret
    exact ⟨rfl, hb1.trans (hb2.mono hz1)⟩

set_option maxHeartbeats 800000 in
theorem l_even_good (T : Int) (n : Nat) (w : World) (h1 : 1 ≤ n) (h2 : n ≤ 100) (hT : 0 ≤ T) (hT2 : T ≤ 1099511627776) :
    Calls Try.prog 13 #[.int .i64 T, .int .i64 (n : Int)] w fun e w' => e = .returned (.bool true) ∧ Below w.heap.size w w' := by
  have he : errS T (ones n) = 0 := by
    rw [errS_ones T n h1 (by omega), if_neg (by omega), if_neg (by omega)]
  have HE := Lib.hid he
  have HP := Lib.hid (fun i hi => parts_ones T n h1 i hi)
  have q0 : 0 ≤ T / n := Int.ediv_nonneg hT (by omega)
  have q1 : T / n ≤ T := Int.ediv_le_self _ hT
  clear he
  go_enter Try.func13, Try.ntmps13
  go_wp2_with fail
  refine (c_awake04 _).mono ?_
  rintro e w1 ⟨rfl, hb1⟩
  have hz1 := hb1.size
  go_wp2_with fail
  refine (c_even T n _ h1 (by omega) HE.out).mono ?_
  rintro e w2 ⟨b2, t2, rfl, hl2, hb2, hP2⟩
  have hB := Lib.hid (hb1.trans (hb2.mono hz1))
  have hP2 := Lib.hid hP2
  clear hb1 hb2 hl2 hz1
  go_wp2_with fail
  go_loop [38] (fun y => ∃ (k : Nat), y = .int .i64 k ∧ k ≤ n) (fun y => n - (intOf y).toNat)
  case atStart => exact ⟨0, rfl, by omega⟩
  case round =>
    obtain ⟨k, rfl, hk⟩ := hrel
    by_cases hlt : k < n
    · have pc := hP2.out.cell k (rowI_get .i64 (partsOf T (ones n)) k (by simpa using hlt))
      rw [HP.out k hlt] at pc
      by_cases hr : (k : Int) < T % n
      · rw [if_pos hr] at pc
        go_wp2
        go_round
        case rel => exact ⟨k + 1, by go_num, by omega⟩
        case measure => simp [intOf]; omega
      · rw [if_neg hr, Int.add_zero] at pc
        go_wp2
        go_round
        case rel => exact ⟨k + 1, by go_num, by omega⟩
        case measure => simp [intOf]; omega
    · obtain rfl : k = n := by omega
      go_wp2
      go_ret
      exact ⟨rfl, hB.out⟩

theorem l_even (T n : Int) (w : World) (hT : (Lit.int .i64 T).wf = true) (hn : (Lit.int .i64 n).wf = true) :
    Calls Try.prog 13 #[.int .i64 T, .int .i64 n] w fun e w' => e = .returned (.bool true) ∧ Below w.heap.size w w' := by
  by_cases h : 100 < n
  · exact l_even_many T n w h
  · by_cases h1 : n < 1
    · exact l_even_no T n w h1
    · obtain ⟨k, rfl⟩ := Int.eq_ofNat_of_zero_le (show 0 ≤ n by omega)
      by_cases h2 : T < 0
      · exact l_even_bad T k w (by omega) (by omega) (.inl h2)
      · by_cases h3 : 1099511627776 < T
        · exact l_even_bad T k w (by omega) (by omega) (.inr ⟨by omega, h3⟩)
        · exact l_even_good T k w (by omega) (by omega) (by omega) (by omega)

end Go.Proofs.Ytagdibogjlmgmaa
