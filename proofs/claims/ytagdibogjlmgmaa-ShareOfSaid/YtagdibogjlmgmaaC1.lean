/-
  money.Compare and what it calls.
-/
import Derived.Test.YtagdibogjlmgmaaMul
import Derived.Test.YtagdibogjlmgmaaNum
namespace Go.Proofs.Ytagdibogjlmgmaa
set_option linter.unusedVariables false
set_option linter.unusedSimpArgs false
open Go.RowKit

set_option maxHeartbeats 400000 in
theorem c_isNaN (n : Int) (w : World) : Calls Try.prog 55 #[.int .u64 n] w fun e w' => e = .returned (.bool false) ∧ w = w' := by
  go_enter Try.func55, Try.ntmps55
  go_wp2
  go_ret
  exact ⟨rfl, rfl⟩


set_option maxHeartbeats 400000 in
theorem c_cmpU (a b : Int) (w : World) : Calls Try.prog 41 #[.int .u64 a, .int .u64 b] w fun e w' => e = .returned (.int .i64 (sgn a b)) ∧ w = w' := by
  go_enter Try.func41, Try.ntmps41
  go_wp2_with (go_at_call 55; refine (c_isNaN _ _).mono ?_; rintro e w' ⟨rfl, rfl⟩)
  all_goals (go_ret; refine ⟨ret_i ?_, rfl⟩; unfold sgn; split <;> first | rfl | omega | (split <;> first | rfl | omega))

set_option maxHeartbeats 400000 in
theorem c_fraction (n d : Int) (w : World) (hn : 0 ≤ n) (hd : 1 ≤ d) :
    Calls Try.prog 54 #[.agg #[.int .i64 n, .int .i64 d]] w fun e w' => e = .returned (.bool true) ∧ Below w.heap.size w w' := by
  go_enter Try.func54, Try.ntmps54
  go_wp2
  all_goals (go_ret; refine ⟨ret_b (by simp [*]), ((Below.refl _ _).alloc (Nat.le_refl _) _)⟩)

set_option maxHeartbeats 400000 in
theorem c_held (n d : Int) (w : World) (hn : 0 ≤ n) (hd : 1 ≤ d) :
    Calls Try.prog 38 #[.agg #[.int .i64 n, .int .i64 d]] w fun e w' => e = .returned (.agg #[.int .i64 n, .int .i64 d]) ∧ Below w.heap.size w w' := by
  go_enter Try.func38, Try.ntmps38
  go_wp2_with (go_at_call 54; refine (c_fraction n d _ hn hd).mono ?_; rintro e w1 ⟨rfl, hb⟩; obtain ⟨hc, hf⟩ := bcell hb; have hz := hb.size; simp at hz)
  exact bodyPost_ret (v := .agg #[.int .i64 n, .int .i64 d]) (by simp [results, Try.results38, go_sem, hc, hz]) rfl ⟨rfl, (((((Below.refl _ _).alloc (Nat.le_refl _) _).alloc (by simp) _).trans (hb.mono (by simp; omega))).setCell (by simp) _).setCell (by simp) _⟩

/-- The first that is not 0. -/
def or2 (a b : Int) : Int := if a = 0 then b else a
set_option maxHeartbeats 400000 in
theorem c_or (a b : Int) (w : World) (B : Nat) (h0 : w.cell? ⟨B, 0, none⟩ = some (.int .i64 a)) (h1 : w.cell? ⟨B, 1, none⟩ = some (.int .i64 b)) :
    Calls Try.prog 40 #[.slice (some ⟨B, 0, none⟩) 2 2] w fun e w' => e = .returned (.int .i64 (or2 a b)) ∧ w = w' := by
  unfold or2
  by_cases ha : a = 0
  · subst ha
    rw [if_pos rfl]
    by_cases hb : b = 0
    · subst hb
      go_enter Try.func40, Try.ntmps40
      go_wp2
      refine wp_loop_rounds 3 ?_
      iterate 3 (rw [rounds_succ]; go_wp2)
      go_ret
      exact ⟨rfl, rfl⟩
    · have hb' : (b == 0) = false := by simpa using hb
      have hb'' : (b != 0) = true := by simpa using hb
      clear hb
      go_enter Try.func40, Try.ntmps40
      go_wp2
      refine wp_loop_rounds 3 ?_
      iterate 2 (rw [rounds_succ]; go_wp2)
      go_ret
      exact ⟨rfl, rfl⟩
  · rw [if_neg ha]
    have hb' : (a == 0) = false := by simpa using ha
    have hb'' : (a != 0) = true := by simpa using ha
    clear ha
    go_enter Try.func40, Try.ntmps40
    go_wp2
    refine wp_loop_rounds 3 ?_
    iterate 1 (rw [rounds_succ]; go_wp2)
    go_ret
    exact ⟨rfl, rfl⟩

theorem sgn2 (a b : Int) (ha : 0 ≤ a) (hb : 0 ≤ b) : or2 (sgn (a / 18446744073709551616) (b / 18446744073709551616)) (sgn (a % 18446744073709551616) (b % 18446744073709551616)) = sgn a b := by
  unfold or2 sgn
  (repeat' split) <;> omega

set_option maxHeartbeats 800000 in
theorem c_compare (an ad bn bd : Int) (w : World) (h1 : 0 ≤ an) (h2 : an ≤ 9223372036854775807) (h3 : 1 ≤ ad) (h4 : ad ≤ 9223372036854775807) (h5 : 0 ≤ bn) (h6 : bn ≤ 9223372036854775807) (h7 : 1 ≤ bd) (h8 : bd ≤ 9223372036854775807) :
    Calls Try.prog 17 #[.agg #[.int .i64 an, .int .i64 ad], .agg #[.int .i64 bn, .int .i64 bd]] w fun e w' => e = .returned (.int .i64 (sgn (an * bd) (bn * ad))) ∧ Below w.heap.size w w' := by
  go_enter Try.func17, Try.ntmps17
  go_upto_region 1 with fail
  go_cut [9] (fun _ wx => Below w.heap.size w wx ∧ w.heap.size + 1 < wx.heap.size ∧ wx.cell? ⟨w.heap.size, 0, none⟩ = some (.int .i64 an) ∧ wx.cell? ⟨w.heap.size, 1, none⟩ = some (.int .i64 ad) ∧ wx.cell? ⟨w.heap.size + 1, 0, none⟩ = some (.int .i64 bn) ∧ wx.cell? ⟨w.heap.size + 1, 1, none⟩ = some (.int .i64 bd))
  case first =>
    go_region_with (first | (go_at_call_of 38 an; refine (c_held an ad _ h1 h3).mono ?_; rintro e w1 ⟨rfl, hb⟩; obtain ⟨hc, hf⟩ := bcell hb; have hz : w.heap.size < w1.heap.size := (by have := hb.size; (try simp at this); omega); have hz1 : w.heap.size + 1 < w1.heap.size := (by have := hb.size; (try simp at this); omega); have hB : Below w.heap.size w w1 := Below.trans (by go_grown) (hb.mono (by go_size)); have q0 : w1.cell? ⟨w.heap.size, 0, none⟩ = some (.int .i64 an) := (hc _ 0 (by go_size)).trans (by first | assumption | (simp [go_sem]; done)); have q1 : w1.cell? ⟨w.heap.size, 1, none⟩ = some (.int .i64 ad) := (hc _ 1 (by go_size)).trans (by first | assumption | (simp [go_sem]; done)); have q2 : w1.cell? ⟨w.heap.size + 1, 0, none⟩ = some (.int .i64 bn) := (hc _ 0 (by go_size)).trans (by first | assumption | (simp [go_sem]; done)); have q3 : w1.cell? ⟨w.heap.size + 1, 1, none⟩ = some (.int .i64 bd) := (hc _ 1 (by go_size)).trans (by first | assumption | (simp [go_sem]; done))) | (go_at_call_of 38 bn; refine (c_held bn bd _ h5 h7).mono ?_; rintro e w1 ⟨rfl, hb⟩; obtain ⟨hc, hf⟩ := bcell hb; have hz : w.heap.size < w1.heap.size := (by have := hb.size; (try simp at this); omega); have hz1 : w.heap.size + 1 < w1.heap.size := (by have := hb.size; (try simp at this); omega); have hB : Below w.heap.size w w1 := Below.trans (by go_grown) (hb.mono (by go_size)); have q0 : w1.cell? ⟨w.heap.size, 0, none⟩ = some (.int .i64 an) := (hc _ 0 (by go_size)).trans (by first | assumption | (simp [go_sem]; done)); have q1 : w1.cell? ⟨w.heap.size, 1, none⟩ = some (.int .i64 ad) := (hc _ 1 (by go_size)).trans (by first | assumption | (simp [go_sem]; done)); have q2 : w1.cell? ⟨w.heap.size + 1, 0, none⟩ = some (.int .i64 bn) := (hc _ 0 (by go_size)).trans (by first | assumption | (simp [go_sem]; done)); have q3 : w1.cell? ⟨w.heap.size + 1, 1, none⟩ = some (.int .i64 bd) := (hc _ 1 (by go_size)).trans (by first | assumption | (simp [go_sem]; done))))
    all_goals
      go_wp2_with fail
      go_meet
      exact ⟨(by go_grown), (by simp; omega), (by simp [go_sem, q0, q1, q2, q3]), (by simp [go_sem, q0, q1, q2, q3]), (by simp [go_sem, q0, q1, q2, q3]), (by simp [go_sem, q0, q1, q2, q3])⟩
  case rest =>
    obtain ⟨hb, hz, q0, q1, q2, q3⟩ := hcut
    go_wp2_with (first | (go_at_call 39; refine (c_mul64 _ _ _ (by omega) (by omega) (by omega) (by omega)).mono ?_; rintro e w' ⟨rfl, rfl⟩) | (go_at_call 41; refine (c_cmpU _ _ _).mono ?_; rintro e w' ⟨rfl, rfl⟩) | (go_at_call 40; refine (c_or _ _ _ _ (World.cell?_alloc_new _ _ _ _) (World.cell?_alloc_new _ _ _ _)).mono ?_; rintro e w' ⟨rfl, rfl⟩))
    go_ret
    refine ⟨ret_i ?_, (hb.alloc (by omega) _)⟩
    exact sgn2 _ _ (Int.mul_nonneg h1 (by omega)) (Int.mul_nonneg h5 (by omega))


end Go.Proofs.Ytagdibogjlmgmaa
