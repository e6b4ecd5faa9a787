/-
  discount.Interest, Discount, Rebate: the contracts.
-/
import Derived.Test.YtagdibogjlmgmabA2
namespace Go.Proofs.Ytagdibogjlmgmab
set_option linter.unusedVariables false
set_option linter.unusedSimpArgs false
open Go.RowKit

theorem valid_split {s n d t base : Int} (h : validB s n d t base = false) :
    s < 0 ∨ (0 ≤ s ∧ (1099511627776 < s ∨ (s ≤ 1099511627776 ∧ (n < 0 ∨ (0 ≤ n ∧ (1048576 < n ∨ (n ≤ 1048576 ∧ (d < 1 ∨ (1 ≤ d ∧ (1048576 < d ∨ (d ≤ 1048576 ∧ (decide (0 ≤ t ∧ t ≤ 1048576) = false ∨ (decide (0 ≤ t ∧ t ≤ 1048576) = true ∧ decide (base = 360 ∨ base = 365) = false))))))))))))) := by
  unfold validB at h
  simp only [decide_eq_false_iff_not, decide_eq_true_eq] at h ⊢
  omega

theorem c_interest_f (s n d t base : Int) (w : World) (hB : intB s n d t base = false) :
    Calls Try.prog 6 #[.int .i64 s, .agg #[.int .i64 n, .int .i64 d], .int .i64 t, .int .i64 base] w fun e w' =>
      e = .returned (.tuple #[.agg #[.int .i64 0, .int .i64 0], .bool false]) ∧ Below w.heap.size w w' := by
  by_cases hv : validB s n d t base = true
  · have hN : 9223372036854775807 < intN s n d t base := by
      unfold intB at hB
      simp only [hv, Bool.true_and, decide_eq_false_iff_not] at hB
      omega
    have hv' := hv
    unfold validB at hv'
    simp only [decide_eq_true_eq] at hv'
    by_cases hz : s = 0 ∨ n = 0 ∨ t = 0
    · have := (int_zero hv hz).1
      omega
    · exact c_interest_over s n d t base w hv (by omega) (by omega) (by omega) hN
  · have hv := valid_split (by simpa using hv)
    rcases hv with h | ⟨h0, h | ⟨h1, h | ⟨h2, h | ⟨h3, h | ⟨h4, h | ⟨h5, h | ⟨h6, h⟩⟩⟩⟩⟩⟩⟩
    · exact c_interest_no0 s n d t base w h
    · exact c_interest_no1 s n d t base w h0 h
    · exact c_interest_no2 s n d t base w h0 h1 h
    · exact c_interest_no3 s n d t base w h0 h1 h2 h
    · exact c_interest_no4 s n d t base w h0 h1 h2 h3 h
    · exact c_interest_no5 s n d t base w h0 h1 h2 h3 h4 h
    · exact c_interest_no6 s n d t base w h0 h1 h2 h3 h4 h5 h
    · exact c_interest_no7 s n d t base w h0 h1 h2 h3 h4 h5 h6 h

theorem c_interest_t (s n d t base : Int) (w : World) (hB : intB s n d t base = true) :
    Calls Try.prog 6 #[.int .i64 s, .agg #[.int .i64 n, .int .i64 d], .int .i64 t, .int .i64 base] w fun e w' =>
      e = .returned (.tuple #[.agg #[.int .i64 (intN s n d t base), .int .i64 (intD s n d t base)], .bool true]) ∧ Below w.heap.size w w' := by
  unfold intB at hB
  simp only [Bool.and_eq_true, decide_eq_true_eq] at hB
  obtain ⟨hv, hN⟩ := hB
  have hv' := hv
  unfold validB at hv'
  simp only [decide_eq_true_eq] at hv'
  by_cases h1 : s = 0
  · obtain ⟨e1, e2⟩ := int_zero hv (.inl h1)
    rw [e1, e2]
    exact c_interest_z1 s n d t base w hv h1
  · by_cases h2 : n = 0
    · obtain ⟨e1, e2⟩ := int_zero hv (.inr (.inl h2))
      rw [e1, e2]
      exact c_interest_z2 s n d t base w hv (by omega) h2
    · by_cases h3 : t = 0
      · obtain ⟨e1, e2⟩ := int_zero hv (.inr (.inr h3))
        rw [e1, e2]
        exact c_interest_z3 s n d t base w hv (by omega) (by omega) h3
      · exact c_interest_yes s n d t base w hv (by omega) (by omega) (by omega) hN

/-- What an interest is good for. -/
theorem int_facts {s n d t base : Int} (hB : intB s n d t base = true) : 0 ≤ s ∧ s ≤ 1099511627776 ∧ 0 ≤ intN s n d t base ∧ intN s n d t base ≤ 9223372036854775807 ∧ 1 ≤ intD s n d t base ∧ intD s n d t base ≤ 382730240 := by
  unfold intB at hB
  simp only [Bool.and_eq_true, decide_eq_true_eq] at hB
  obtain ⟨hv, hN⟩ := hB
  have h1 := intN_nonneg hv
  have h2 := intD_pos hv
  unfold validB at hv
  simp only [decide_eq_true_eq] at hv
  exact ⟨hv.1, hv.2.1, h1, hN, h2⟩

set_option maxHeartbeats 800000 in
theorem c_discount_f (s n d t base : Int) (w : World) (hB : intB s n d t base = false) :
    Calls Try.prog 8 #[.int .i64 s, .agg #[.int .i64 n, .int .i64 d], .int .i64 t, .int .i64 base] w fun e w' =>
      e = .returned (.tuple #[.int .i64 0, .int .i64 0, .bool false]) ∧ Below w.heap.size w w' := by
  go_enter Try.func8, Try.ntmps8
  go_wp2_with (go_at_call 6; refine (c_interest_f _ _ _ _ _ _ hB).mono ?_; rintro e w1 ⟨rfl, hb⟩; obtain ⟨hc, hf⟩ := bcell hb; have hz : w.heap.size < w1.heap.size := (by have := hb.size; (try simp at this); omega); have hB1 : Below w.heap.size w w1 := Below.trans (by go_grown) (hb.mono (by go_size)))
  go_ret3
  refine ⟨rfl, ?_⟩
  repeat' (first | (with_reducible exact Below.refl _ _) | (with_reducible assumption) | (with_reducible refine below_drewN ?_ _) | (with_reducible refine Below.drew ?_) | (with_reducible refine Below.alloc ?_ ?_ _) | (with_reducible refine Below.setCell ?_ ?_ _) | go_size)

set_option maxHeartbeats 800000 in
theorem c_discount_n (s n d t base : Int) (w : World) (hB : intB s n d t base = true) (hn : s < near (intN s n d t base) (intD s n d t base)) :
    Calls Try.prog 8 #[.int .i64 s, .agg #[.int .i64 n, .int .i64 d], .int .i64 t, .int .i64 base] w fun e w' =>
      e = .returned (.tuple #[.int .i64 0, .int .i64 0, .bool false]) ∧ Below w.heap.size w w' := by
  obtain ⟨f1, f2, f3, f4, f5, f6⟩ := int_facts hB
  go_enter Try.func8, Try.ntmps8
  go_wp2_with (first | (go_at_call 6; refine (c_interest_t _ _ _ _ _ _ hB).mono ?_; rintro e w1 ⟨rfl, hb⟩; obtain ⟨hc, hf⟩ := bcell hb; have hz : w.heap.size < w1.heap.size := (by have := hb.size; (try simp at this); omega); have hB1 : Below w.heap.size w w1 := Below.trans (by go_grown) (hb.mono (by go_size)); have hz1 := hB1.size) | (go_at_call 11; refine (c_near _ _ _ (by omega) (by omega) (by omega) (by omega)).mono ?_; rintro e w2 ⟨rfl, hb⟩; obtain ⟨hc, hf⟩ := bcell hb; have hz' : w1.heap.size < w2.heap.size := (by have := hb.size; (try simp at this); omega); have hB2 : Below w.heap.size w w2 := Below.trans (by go_grown) (hb.mono (by go_size))))
  go_ret3
  refine ⟨rfl, ?_⟩
  repeat' (first | (with_reducible exact Below.refl _ _) | (with_reducible assumption) | (with_reducible refine below_drewN ?_ _) | (with_reducible refine Below.drew ?_) | (with_reducible refine Below.alloc ?_ ?_ _) | (with_reducible refine Below.setCell ?_ ?_ _) | go_size)

set_option maxHeartbeats 800000 in
theorem c_discount_t (s n d t base : Int) (w : World) (hB : intB s n d t base = true) (hn : near (intN s n d t base) (intD s n d t base) ≤ s) :
    Calls Try.prog 8 #[.int .i64 s, .agg #[.int .i64 n, .int .i64 d], .int .i64 t, .int .i64 base] w fun e w' =>
      e = .returned (.tuple #[.int .i64 (s - near (intN s n d t base) (intD s n d t base)), .int .i64 (near (intN s n d t base) (intD s n d t base)), .bool true]) ∧ Below w.heap.size w w' := by
  obtain ⟨f1, f2, f3, f4, f5, f6⟩ := int_facts hB
  have f7 := near_bd _ _ f3 f5
  go_enter Try.func8, Try.ntmps8
  go_wp2_with (first | (go_at_call 6; refine (c_interest_t _ _ _ _ _ _ hB).mono ?_; rintro e w1 ⟨rfl, hb⟩; obtain ⟨hc, hf⟩ := bcell hb; have hz : w.heap.size < w1.heap.size := (by have := hb.size; (try simp at this); omega); have hB1 : Below w.heap.size w w1 := Below.trans (by go_grown) (hb.mono (by go_size)); have hz1 := hB1.size) | (go_at_call 11; refine (c_near _ _ _ (by omega) (by omega) (by omega) (by omega)).mono ?_; rintro e w2 ⟨rfl, hb⟩; obtain ⟨hc, hf⟩ := bcell hb; have hz' : w1.heap.size < w2.heap.size := (by have := hb.size; (try simp at this); omega); have hB2 : Below w.heap.size w w2 := Below.trans (by go_grown) (hb.mono (by go_size)); have q0 : w2.cell? ⟨w1.heap.size, 0, none⟩ = some (.int .i64 (intN s n d t base)) := (hc _ 0 (by go_size)).trans (by first | assumption | (simp [go_sem]; done)); have q1 : w2.cell? ⟨w1.heap.size, 1, none⟩ = some (.int .i64 (intD s n d t base)) := (hc _ 1 (by go_size)).trans (by first | assumption | (simp [go_sem]; done))))
  go_region_with (go_at_call 11; refine (c_near _ _ _ (by omega) (by omega) (by omega) (by omega)).mono ?_; rintro e w2 ⟨rfl, hb⟩; obtain ⟨hc, hf⟩ := bcell hb; have hz' : w1.heap.size < w2.heap.size := (by have := hb.size; (try simp at this); omega); have hB2 : Below w.heap.size w w2 := Below.trans (by go_grown) (hb.mono (by go_size)); have q0 : w2.cell? ⟨w1.heap.size, 0, none⟩ = some (.int .i64 (intN s n d t base)) := (hc _ 0 (by go_size)).trans (by first | assumption | (simp [go_sem]; done)); have q1 : w2.cell? ⟨w1.heap.size, 1, none⟩ = some (.int .i64 (intD s n d t base)) := (hc _ 1 (by go_size)).trans (by first | assumption | (simp [go_sem]; done)))
  all_goals
    go_wp2
    go_ret3
    refine ⟨?_, ?_⟩
    · go_simp
      exact IntWalk.i64_in _ (by omega)
    repeat' (first | (with_reducible exact Below.refl _ _) | (with_reducible assumption) | (with_reducible refine below_drewN ?_ _) | (with_reducible refine Below.drew ?_) | (with_reducible refine Below.alloc ?_ ?_ _) | (with_reducible refine Below.setCell ?_ ?_ _) | go_size)

theorem awake_int : intB 1000 9 100 60 360 = true ∧ intN 1000 9 100 60 360 = 15 ∧ intD 1000 9 100 60 360 = 1 := by decide +kernel

set_option maxHeartbeats 800000 in
theorem c_awake39 (w : World) :
    Calls Try.prog 4 #[] w fun e w' => e = .returned (.bool true) ∧ Below w.heap.size w w' := by
  have hI := (c_interest_t 1000 9 100 60 360 · awake_int.1)
  have hD := (c_discount_t 1000 9 100 60 360 · awake_int.1 (by rw [awake_int.2.1, awake_int.2.2]; decide))
  rw [awake_int.2.1, awake_int.2.2] at hI hD
  rw [show near 15 1 = 15 from by decide] at hD
  have HI := Lib.hid hI
  have HD := Lib.hid hD
  clear hI hD
  go_enter Try.func4, Try.ntmps4
  go_wp2_with (first | (go_at_call 6; refine (HI.out _).mono ?_; rintro e w1 ⟨rfl, hb⟩; obtain ⟨hc, hf⟩ := bcell hb; have hB1 : Below w.heap.size w w1 := Below.trans (by go_grown) (hb.mono (by go_size)); have hz1 := hB1.size) | (go_at_call 8; refine (HD.out _).mono ?_; rintro e w2 ⟨rfl, hb⟩; obtain ⟨hc, hf⟩ := bcell hb; have hz' : w1.heap.size < w2.heap.size := (by have := hb.size; (try simp at this); omega); have hB2 : Below w.heap.size w w2 := Below.trans (by go_grown) (hb.mono (by go_size))))
  go_ret
  exact ⟨rfl, hB2⟩

end Go.Proofs.Ytagdibogjlmgmab
