/-
  share.Of: its walk (over SMay).
-/
import Derived.Test.YtbcmaaoddnaoiaaSMay
import Derived.Test.YtbcmaaoddnaoiaaDivW
namespace Go.Proofs.Ytbcmaaoddnaoiaa
set_option linter.unusedVariables false
set_option linter.unusedSimpArgs false
open Go.RowKit

set_option maxHeartbeats 800000 in
theorem c_of_bad (T n d : Int) (w : World) (h : decide (0 ≤ n ∧ 1 ≤ d) = false ∨ (decide (0 ≤ n ∧ 1 ≤ d) = true ∧ (T < 0 ∨ (0 ≤ T ∧ 1099511627776 < T)))) :
    Calls Try.prog 96 #[.int .i64 T, .agg #[.int .i64 n, .int .i64 d]] w fun e w' => e = .returned (.tuple #[.int .i64 0, .bool false]) ∧ Below w.heap.size w w' := by
  rcases h with h | ⟨h, h2 | ⟨h2, h3⟩⟩
  all_goals
    have HM := Lib.hid (fun w => c_may n d w)
    have hm := fun w => HM.out w
    rw [h] at hm
    have HM2 := Lib.hid hm
    clear hm HM h
    go_enter Try.func96, Try.ntmps96
    go_wp2_with (go_at_call 119; refine (HM2.out _).mono ?_; rintro e w1 ⟨rfl, hb⟩; have hB : Hid (Below w.heap.size w w1) := Lib.hid (Below.trans (by go_grown) (hb.mono (by simp))); clear hb)
    go_ret2
    exact ⟨rfl, hB.out⟩

theorem of_hi (X d : Int) (hd : 1 ≤ d) (h : d ≤ X / 18446744073709551616) : 1099511627776 < X / d := by
  have h1 : d * 18446744073709551616 ≤ X := by
    have := Int.mul_le_mul_of_nonneg_right h (show (0 : Int) ≤ 18446744073709551616 by omega)
    omega
  have h2 := (Int.le_ediv_iff_mul_le (a := 18446744073709551616) (b := X) (c := d) (by omega)).2 (by rw [Int.mul_comm]; exact h1)
  omega

set_option maxHeartbeats 1600000 in
theorem c_of_ok (T n d : Int) (w : World) (hn : 0 ≤ n) (hn2 : n ≤ 9223372036854775807) (hd : 1 ≤ d) (hd2 : d ≤ 9223372036854775807) (hT : 0 ≤ T) (hT2 : T ≤ 1099511627776) (hq : T * n / d ≤ 1099511627776) :
    Calls Try.prog 96 #[.int .i64 T, .agg #[.int .i64 n, .int .i64 d]] w fun e w' => e = .returned (.tuple #[.int .i64 (T * n / d), .bool true]) ∧ Below w.heap.size w w' := by
  have h0 : 0 ≤ T * n := Int.mul_nonneg hT hn
  have hhi : T * n / 18446744073709551616 < d := by
    rcases Int.lt_or_le (T * n / 18446744073709551616) d with h | h
    · exact h
    · have := of_hi (T * n) d hd h; omega
  have hm := fun w => c_may n d w
  rw [may_t n d hn hd] at hm
  have HM := Lib.hid hm
  have HMul := Lib.hid (fun w => c_mul64 T n w (by omega) (by omega) (by omega) (by omega))
  have hdiv := fun w => c_div64 (T * n / 18446744073709551616) (T * n % 18446744073709551616) d w (by omega) hhi (by omega) (by omega) (by omega)
  rw [show T * n / 18446744073709551616 * 18446744073709551616 + T * n % 18446744073709551616 = T * n by omega] at hdiv
  have HDiv := Lib.hid hdiv
  have q0 : 0 ≤ T * n / d := Int.ediv_nonneg h0 (by omega)
  clear hm hdiv
  generalize T * n / d = Q at *
  generalize T * n % d = R at *
  generalize T * n / 18446744073709551616 = hi at *
  generalize T * n % 18446744073709551616 = lo at *
  have e1 : IntKind.u64.wrap T = T := IntWalk.u64_in _ (by omega)
  have e2 : IntKind.u64.wrap n = n := IntWalk.u64_in _ (by omega)
  have e3 : IntKind.u64.wrap d = d := IntWalk.u64_in _ (by omega)
  have e4 : IntKind.i64.wrap Q = Q := IntWalk.i64_in _ (by omega)
  go_enter Try.func96, Try.ntmps96
  go_wp2_with fail
  refine (HM.out _).mono ?_
  rintro e w1 ⟨rfl, hb⟩
  have hB : Below w.heap.size w w1 := Below.trans (by go_grown) (hb.mono (by simp))
  obtain ⟨hc, hf⟩ := bcell hb
  have c0 : w1.cell? ⟨w.heap.size, 0, none⟩ = some (.int .i64 n) := (hc _ 0 (by go_size)).trans (by first | assumption | (simp [go_sem]; done))
  have c1 : w1.cell? ⟨w.heap.size, 1, none⟩ = some (.int .i64 d) := (hc _ 1 (by go_size)).trans (by first | assumption | (simp [go_sem]; done))
  have HB := Lib.hid hB
  clear hc hf hb hB
  go_wp2_with (first | (go_at_call 83; refine (HMul.out _).mono ?_; rintro e w' ⟨rfl, rfl⟩) | (go_at_call 84; refine (HDiv.out _).mono ?_; rintro e w' ⟨rfl, m, rfl⟩))
  go_ret2
  exact ⟨rfl, below_drewN HB.out _⟩

set_option maxHeartbeats 1600000 in
theorem c_of_over (T n d : Int) (w : World) (hn : 0 ≤ n) (hn2 : n ≤ 9223372036854775807) (hd : 1 ≤ d) (hd2 : d ≤ 9223372036854775807) (hT : 0 ≤ T) (hT2 : T ≤ 1099511627776) (hq : 1099511627776 < T * n / d) :
    Calls Try.prog 96 #[.int .i64 T, .agg #[.int .i64 n, .int .i64 d]] w fun e w' => e = .returned (.tuple #[.int .i64 0, .bool false]) ∧ Below w.heap.size w w' := by
  have h0 : 0 ≤ T * n := Int.mul_nonneg hT hn
  have hm := fun w => c_may n d w
  rw [may_t n d hn hd] at hm
  have HM := Lib.hid hm
  have HMul := Lib.hid (fun w => c_mul64 T n w (by omega) (by omega) (by omega) (by omega))
  have e1 : IntKind.u64.wrap T = T := IntWalk.u64_in _ (by omega)
  have e2 : IntKind.u64.wrap n = n := IntWalk.u64_in _ (by omega)
  have e3 : IntKind.u64.wrap d = d := IntWalk.u64_in _ (by omega)
  clear hm
  by_cases hhi : T * n / 18446744073709551616 < d
  · have hdiv := fun w => c_div64 (T * n / 18446744073709551616) (T * n % 18446744073709551616) d w (by omega) hhi (by omega) (by omega) (by omega)
    rw [show T * n / 18446744073709551616 * 18446744073709551616 + T * n % 18446744073709551616 = T * n by omega] at hdiv
    have HDiv := Lib.hid hdiv
    clear hdiv
    generalize T * n / d = Q at *
    generalize T * n % d = R at *
    generalize T * n / 18446744073709551616 = hi at *
    generalize T * n % 18446744073709551616 = lo at *
    go_enter Try.func96, Try.ntmps96
    go_wp2_with fail
    refine (HM.out _).mono ?_
    rintro e w1 ⟨rfl, hb⟩
    have hB : Below w.heap.size w w1 := Below.trans (by go_grown) (hb.mono (by simp))
    obtain ⟨hc, hf⟩ := bcell hb
    have c0 : w1.cell? ⟨w.heap.size, 0, none⟩ = some (.int .i64 n) := (hc _ 0 (by go_size)).trans (by first | assumption | (simp [go_sem]; done))
    have c1 : w1.cell? ⟨w.heap.size, 1, none⟩ = some (.int .i64 d) := (hc _ 1 (by go_size)).trans (by first | assumption | (simp [go_sem]; done))
    have HB := Lib.hid hB
    clear hc hf hb hB
    go_wp2_with (first | (go_at_call 83; refine (HMul.out _).mono ?_; rintro e w' ⟨rfl, rfl⟩) | (go_at_call 84; refine (HDiv.out _).mono ?_; rintro e w' ⟨rfl, m, rfl⟩))
    go_ret2
    exact ⟨rfl, below_drewN HB.out _⟩
  · generalize T * n / d = Q at *
    generalize T * n / 18446744073709551616 = hi at *
    generalize T * n % 18446744073709551616 = lo at *
    go_enter Try.func96, Try.ntmps96
    go_wp2_with fail
    refine (HM.out _).mono ?_
    rintro e w1 ⟨rfl, hb⟩
    have hB : Below w.heap.size w w1 := Below.trans (by go_grown) (hb.mono (by simp))
    obtain ⟨hc, hf⟩ := bcell hb
    have c0 : w1.cell? ⟨w.heap.size, 0, none⟩ = some (.int .i64 n) := (hc _ 0 (by go_size)).trans (by first | assumption | (simp [go_sem]; done))
    have c1 : w1.cell? ⟨w.heap.size, 1, none⟩ = some (.int .i64 d) := (hc _ 1 (by go_size)).trans (by first | assumption | (simp [go_sem]; done))
    have HB := Lib.hid hB
    clear hc hf hb hB
    go_wp2_with (go_at_call 83; refine (HMul.out _).mono ?_; rintro e w' ⟨rfl, rfl⟩)
    go_ret2
    exact ⟨rfl, HB.out⟩

end Go.Proofs.Ytbcmaaoddnaoiaa
