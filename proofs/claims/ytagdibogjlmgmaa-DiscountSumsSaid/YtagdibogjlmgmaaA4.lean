/-
  The law DiscountSums: its walk.
-/
import Derived.Test.YtagdibogjlmgmaaA3
namespace Go.Proofs.Ytagdibogjlmgmaa
set_option linter.unusedVariables false
set_option linter.unusedSimpArgs false
open Go.RowKit

theorem sums_gt (N D s : Int) (hN : 0 ≤ N) (hD : 1 ≤ D) (hs : 0 ≤ s) (h : s < near N D) : 0 < sgn N (s * D) := by
  have h6 := Int.mul_ediv_add_emod N D
  have h7 := Int.emod_nonneg N (show D ≠ 0 by omega)
  have h8 := Int.emod_lt_of_pos N (show 0 < D by omega)
  have hx : s * D < N := by
    unfold near at h
    split at h
    · rename_i h9
      have : D * s ≤ D * (N / D) := Int.mul_le_mul_of_nonneg_left (by omega) (by omega)
      rw [Int.mul_comm s D]
      omega
    · have : D * (s + 1) ≤ D * (N / D) := Int.mul_le_mul_of_nonneg_left (by omega) (by omega)
      rw [Int.mul_add] at this
      rw [Int.mul_comm s D]
      omega
  unfold sgn
  rw [if_neg (by omega), if_pos hx]
  decide
theorem sums_lt (N D : Int) (hN : 0 ≤ N) (hD : 1 ≤ D) : sgn (N * 2) ((2 * near N D + 1) * D) < 0 := by
  have h6 := Int.mul_ediv_add_emod N D
  have h7 := Int.emod_nonneg N (show D ≠ 0 by omega)
  have h8 := Int.emod_lt_of_pos N (show 0 < D by omega)
  have hx : N * 2 < (2 * near N D + 1) * D := by
    unfold near
    split
    · have e : (2 * (N / D + 1) + 1) * D = 2 * (D * (N / D)) + 3 * D := by rw [Int.add_mul, Int.mul_assoc, Int.add_mul, Int.mul_comm (N / D) D]; omega
      omega
    · have e : (2 * (N / D) + 1) * D = 2 * (D * (N / D)) + D := by rw [Int.add_mul, Int.mul_assoc, Int.mul_comm (N / D) D]; omega
      omega
  unfold sgn
  rw [if_pos hx]
  decide
theorem sums_ge (N D : Int) (hN : 0 ≤ N) (hD : 1 ≤ D) (h : 1 ≤ near N D) : 0 ≤ sgn (N * 2) ((2 * near N D - 1) * D) := by
  have h6 := Int.mul_ediv_add_emod N D
  have h7 := Int.emod_nonneg N (show D ≠ 0 by omega)
  have h8 := Int.emod_lt_of_pos N (show 0 < D by omega)
  have hx : (2 * near N D - 1) * D ≤ N * 2 := by
    unfold near
    split
    · have e : (2 * (N / D + 1) - 1) * D = 2 * (D * (N / D)) + D := by rw [Int.sub_mul, Int.mul_assoc, Int.add_mul, Int.mul_comm (N / D) D]; omega
      omega
    · have e : (2 * (N / D) - 1) * D = 2 * (D * (N / D)) - D := by rw [Int.sub_mul, Int.mul_assoc, Int.mul_comm (N / D) D]; omega
      omega
  unfold sgn
  rw [if_neg (by omega)]
  split <;> decide

set_option maxHeartbeats 1600000 in
theorem l_sums_f (s n d t base : Int) (w : World) (hB : intB s n d t base = false) :
    Calls Try.prog 3 #[.int .i64 s, .agg #[.int .i64 n, .int .i64 d], .int .i64 t, .int .i64 base] w fun e w' => e = .returned (.bool true) ∧ Below w.heap.size w w' := by
  go_enter Try.func3, Try.ntmps3
  go_wp2_with (first | (go_at_call 14; refine (c_awake39 _).mono ?_; rintro e w1 ⟨rfl, hb⟩; obtain ⟨hc, hf⟩ := bcell hb; have hBw1 : Below w.heap.size w w1 := Below.trans (by go_grown) (hb.mono (by go_size)); have hzw1 := hBw1.size; have hsw10 : w.heap.size < w1.heap.size := (by have := hb.size; (try simp at this); omega)) | (go_at_call 15; refine (c_discount_f _ _ _ _ _ _ hB).mono ?_; rintro e w2 ⟨rfl, hb⟩; obtain ⟨hc, hf⟩ := bcell hb; have hBw2 : Below w.heap.size w w2 := Below.trans (by go_grown) (hb.mono (by go_size)); have hzw2 := hBw2.size; have hsw20 : w.heap.size < w2.heap.size := (by have := hb.size; (try simp at this); omega)) | (go_at_call 16; refine (c_interest_f _ _ _ _ _ _ hB).mono ?_; rintro e w3 ⟨rfl, hb⟩; obtain ⟨hc, hf⟩ := bcell hb; have hBw3 : Below w.heap.size w w3 := Below.trans (by go_grown) (hb.mono (by go_size)); have hzw3 := hBw3.size; have hsw30 : w.heap.size < w3.heap.size := (by have := hb.size; (try simp at this); omega)))
  go_ret
  refine ⟨rfl, ?_⟩
  repeat' (first | (with_reducible exact Below.refl _ _) | (with_reducible assumption) | (with_reducible refine below_drewN ?_ _) | (with_reducible refine Below.drew ?_) | (with_reducible refine Below.alloc ?_ ?_ _) | (with_reducible refine Below.setCell ?_ ?_ _) | go_size)

set_option maxHeartbeats 1600000 in
theorem l_sums_n (s n d t base : Int) (w : World) (hB : intB s n d t base = true) (hn : s < near (intN s n d t base) (intD s n d t base)) :
    Calls Try.prog 3 #[.int .i64 s, .agg #[.int .i64 n, .int .i64 d], .int .i64 t, .int .i64 base] w fun e w' => e = .returned (.bool true) ∧ Below w.heap.size w w' := by
  obtain ⟨f1, f2, f3, f4, f5, f6⟩ := int_facts hB
  have hg := sums_gt _ _ s f3 f5 f1 hn
  go_enter Try.func3, Try.ntmps3
  go_wp2_with (first | (go_at_call 14; refine (c_awake39 _).mono ?_; rintro e w1 ⟨rfl, hb⟩; obtain ⟨hc, hf⟩ := bcell hb; have hBw1 : Below w.heap.size w w1 := Below.trans (by go_grown) (hb.mono (by go_size)); have hzw1 := hBw1.size; have hsw10 : w.heap.size < w1.heap.size := (by have := hb.size; (try simp at this); omega)) | (go_at_call 15; refine (c_discount_n _ _ _ _ _ _ hB hn).mono ?_; rintro e w2 ⟨rfl, hb⟩; obtain ⟨hc, hf⟩ := bcell hb; have hBw2 : Below w.heap.size w w2 := Below.trans (by go_grown) (hb.mono (by go_size)); have hzw2 := hBw2.size; have hsw20 : w.heap.size < w2.heap.size := (by have := hb.size; (try simp at this); omega)) | (go_at_call 16; refine (c_interest_t _ _ _ _ _ _ hB).mono ?_; rintro e w3 ⟨rfl, hb⟩; obtain ⟨hc, hf⟩ := bcell hb; have hBw3 : Below w.heap.size w w3 := Below.trans (by go_grown) (hb.mono (by go_size)); have hzw3 := hBw3.size; have hsw30 : w.heap.size < w3.heap.size := (by have := hb.size; (try simp at this); omega)) | (go_at_call 17; refine (c_compare _ _ _ _ _ (by omega) (by omega) (by omega) (by omega) (by omega) (by omega) (by omega) (by omega)).mono ?_; rintro e w4 ⟨rfl, hb⟩; obtain ⟨hc, hf⟩ := bcell hb; have hBw4 : Below w.heap.size w w4 := Below.trans (by go_grown) (hb.mono (by go_size)); have hzw4 := hBw4.size; have hsw40 : w.heap.size < w4.heap.size := (by have := hb.size; (try simp at this); omega)))
  go_ret
  refine ⟨rfl, ?_⟩
  repeat' (first | (with_reducible exact Below.refl _ _) | (with_reducible assumption) | (with_reducible refine below_drewN ?_ _) | (with_reducible refine Below.drew ?_) | (with_reducible refine Below.alloc ?_ ?_ _) | (with_reducible refine Below.setCell ?_ ?_ _) | go_size)

set_option maxHeartbeats 1600000 in
theorem l_sums_t (s n d t base : Int) (w : World) (hB : intB s n d t base = true) (hn : near (intN s n d t base) (intD s n d t base) ≤ s) :
    Calls Try.prog 3 #[.int .i64 s, .agg #[.int .i64 n, .int .i64 d], .int .i64 t, .int .i64 base] w fun e w' => e = .returned (.bool true) ∧ Below w.heap.size w w' := by
  obtain ⟨f1, f2, f3, f4, f5, f6⟩ := int_facts hB
  have f7 := near_bd _ _ f3 f5
  have hl := sums_lt _ _ f3 f5
  by_cases h1 : 1 ≤ near (intN s n d t base) (intD s n d t base)
  · have hg := sums_ge _ _ f3 f5 h1
    go_enter Try.func3, Try.ntmps3
    go_wp2_with (first | (go_at_call 14; refine (c_awake39 _).mono ?_; rintro e w1 ⟨rfl, hb⟩; obtain ⟨hc, hf⟩ := bcell hb; have hBw1 : Below w.heap.size w w1 := Below.trans (by go_grown) (hb.mono (by go_size)); have hzw1 := hBw1.size; have hsw10 : w.heap.size < w1.heap.size := (by have := hb.size; (try simp at this); omega)) | (go_at_call 15; refine (c_discount_t _ _ _ _ _ _ hB hn).mono ?_; rintro e w2 ⟨rfl, hb⟩; obtain ⟨hc, hf⟩ := bcell hb; have hBw2 : Below w.heap.size w w2 := Below.trans (by go_grown) (hb.mono (by go_size)); have hzw2 := hBw2.size; have hsw20 : w.heap.size < w2.heap.size := (by have := hb.size; (try simp at this); omega)) | (go_at_call 16; refine (c_interest_t _ _ _ _ _ _ hB).mono ?_; rintro e w3 ⟨rfl, hb⟩; obtain ⟨hc, hf⟩ := bcell hb; have hBw3 : Below w.heap.size w w3 := Below.trans (by go_grown) (hb.mono (by go_size)); have hzw3 := hBw3.size; have hsw30 : w.heap.size < w3.heap.size := (by have := hb.size; (try simp at this); omega)) | (go_at_call 17; refine (c_compare _ _ _ _ _ (by omega) (by omega) (by omega) (by omega) (by omega) (by omega) (by omega) (by omega)).mono ?_; rintro e w4 ⟨rfl, hb⟩; obtain ⟨hc, hf⟩ := bcell hb; have hBw4 : Below w.heap.size w w4 := Below.trans (by go_grown) (hb.mono (by go_size)); have hzw4 := hBw4.size; have hsw40 : w.heap.size < w4.heap.size := (by have := hb.size; (try simp at this); omega); have hsw41 : w3.heap.size < w4.heap.size := (by have := hb.size; (try simp at this); omega)))
    go_ret
    refine ⟨rfl, ?_⟩
    repeat' (first | (with_reducible exact Below.refl _ _) | (with_reducible assumption) | (with_reducible refine below_drewN ?_ _) | (with_reducible refine Below.drew ?_) | (with_reducible refine Below.alloc ?_ ?_ _) | (with_reducible refine Below.setCell ?_ ?_ _) | go_size)
  · go_enter Try.func3, Try.ntmps3
    go_wp2_with (first | (go_at_call 14; refine (c_awake39 _).mono ?_; rintro e w1 ⟨rfl, hb⟩; obtain ⟨hc, hf⟩ := bcell hb; have hBw1 : Below w.heap.size w w1 := Below.trans (by go_grown) (hb.mono (by go_size)); have hzw1 := hBw1.size; have hsw10 : w.heap.size < w1.heap.size := (by have := hb.size; (try simp at this); omega)) | (go_at_call 15; refine (c_discount_t _ _ _ _ _ _ hB hn).mono ?_; rintro e w2 ⟨rfl, hb⟩; obtain ⟨hc, hf⟩ := bcell hb; have hBw2 : Below w.heap.size w w2 := Below.trans (by go_grown) (hb.mono (by go_size)); have hzw2 := hBw2.size; have hsw20 : w.heap.size < w2.heap.size := (by have := hb.size; (try simp at this); omega)) | (go_at_call 16; refine (c_interest_t _ _ _ _ _ _ hB).mono ?_; rintro e w3 ⟨rfl, hb⟩; obtain ⟨hc, hf⟩ := bcell hb; have hBw3 : Below w.heap.size w w3 := Below.trans (by go_grown) (hb.mono (by go_size)); have hzw3 := hBw3.size; have hsw30 : w.heap.size < w3.heap.size := (by have := hb.size; (try simp at this); omega)) | (go_at_call 17; refine (c_compare _ _ _ _ _ (by omega) (by omega) (by omega) (by omega) (by omega) (by omega) (by omega) (by omega)).mono ?_; rintro e w4 ⟨rfl, hb⟩; obtain ⟨hc, hf⟩ := bcell hb; have hBw4 : Below w.heap.size w w4 := Below.trans (by go_grown) (hb.mono (by go_size)); have hzw4 := hBw4.size; have hsw40 : w.heap.size < w4.heap.size := (by have := hb.size; (try simp at this); omega); have hsw41 : w3.heap.size < w4.heap.size := (by have := hb.size; (try simp at this); omega)))
    go_ret
    refine ⟨rfl, ?_⟩
    repeat' (first | (with_reducible exact Below.refl _ _) | (with_reducible assumption) | (with_reducible refine below_drewN ?_ _) | (with_reducible refine Below.drew ?_) | (with_reducible refine Below.alloc ?_ ?_ _) | (with_reducible refine Below.setCell ?_ ?_ _) | go_size)

theorem l_sums (s n d t base : Int) (w : World) :
    Calls Try.prog 3 #[.int .i64 s, .agg #[.int .i64 n, .int .i64 d], .int .i64 t, .int .i64 base] w fun e w' => e = .returned (.bool true) ∧ Below w.heap.size w w' := by
  cases hB : intB s n d t base with
  | false => exact l_sums_f s n d t base w hB
  | true =>
    by_cases hn : s < near (intN s n d t base) (intD s n d t base)
    · exact l_sums_n s n d t base w hB hn
    · exact l_sums_t s n d t base w hB (by omega)

end Go.Proofs.Ytagdibogjlmgmaa
