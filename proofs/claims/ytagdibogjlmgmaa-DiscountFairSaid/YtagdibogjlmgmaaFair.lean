/-
  discount.Fair and the document's: the contracts.
-/
import Derived.Test.YtagdibogjlmgmaaA3
import Derived.Test.YtagdibogjlmgmaaC1
import Derived.Test.YtagdibogjlmgmaaRefInt
namespace Go.Proofs.Ytagdibogjlmgmaa
set_option linter.unusedVariables false
set_option linter.unusedSimpArgs false
open Go.RowKit

theorem c_interestP (b : Bool) (s n d t base : Int) (w : World) (hB : intB s n d t base = b) :
    Calls Try.prog 16 #[.int .i64 s, .agg #[.int .i64 n, .int .i64 d], .int .i64 t, .int .i64 base] w fun e w' =>
      e = .returned (.tuple #[.agg #[.int .i64 (iN b s n d t base), .int .i64 (iD b s n d t base)], .bool b]) ∧ Below w.heap.size w w' := by
  cases b
  · exact c_interest_f s n d t base w hB
  · exact c_interest_t s n d t base w hB
theorem c_interestR (b : Bool) (s n d t base : Int) (w : World) (hB : intB s n d t base = b) :
    Calls Try.prog 42 #[.int .i64 s, .agg #[.int .i64 n, .int .i64 d], .int .i64 t, .int .i64 base] w fun e w' =>
      e = .returned (.tuple #[.agg #[.int .i64 (iN b s n d t base), .int .i64 (iD b s n d t base)], .bool b]) ∧ Below w.heap.size w w' := by
  cases hv : validB s n d t base
  · have : b = false := by rw [← hB]; unfold intB; rw [hv]; rfl
    subst this
    exact c_interestR_f s n d t base w hv
  · have := c_interestR_t s n d t base w hv
    rw [hB] at this
    exact this

/-- Is a, with its interest, less than b, as much, or more? -/
def fairV (a b n d t base : Int) : Int :=
  if intB a n d t base = true ∧ 0 ≤ b ∧ b ≤ 1099511627776 then
    (if b - a < intN a n d t base / intD a n d t base then 1 else if intN a n d t base / intD a n d t base < b - a then -1 else if 0 < intN a n d t base % intD a n d t base then 1 else 0)
  else 0
theorem sgn_pos (x : Int) (h : 0 < x) : sgn x 0 = 1 := by unfold sgn; rw [if_neg (by omega), if_pos h]
theorem sgn_zero (x : Int) (h : x = 0) : sgn x 0 = 0 := by subst h; rfl

set_option maxHeartbeats 1600000 in
theorem c_fair_f (a b n d t base : Int) (w : World) (hB : intB a n d t base = false) : Calls Try.prog 19 #[.int .i64 a, .int .i64 b, .agg #[.int .i64 n, .int .i64 d], .int .i64 t, .int .i64 base] w fun e w' => e = .returned (.int .i64 (0)) ∧ Below w.heap.size w w' := by
  have HB := Lib.hid hB
  clear hB
  go_enter Try.func19, Try.ntmps19
  go_wp2_with (go_at_call 16; refine (c_interestP false _ _ _ _ _ _ HB.out).mono ?_; rintro e w1 ⟨rfl, hb⟩; obtain ⟨hc, hf⟩ := bcell hb; have hBw1 : Below w.heap.size w w1 := Below.trans (by go_grown) (hb.mono (by go_size)); have hzw1 := hBw1.size; have hsw10 : w.heap.size < w1.heap.size := (by have := hb.size; (try simp at this); omega))
  go_ret
  refine ⟨rfl, ?_⟩
  repeat' (first | (with_reducible exact Below.refl _ _) | (with_reducible assumption) | (with_reducible refine below_drewN ?_ _) | (with_reducible refine Below.drew ?_) | (with_reducible refine Below.alloc ?_ ?_ _) | (with_reducible refine Below.setCell ?_ ?_ _) | go_size)

set_option maxHeartbeats 1600000 in
theorem c_fair_lo (a b n d t base : Int) (w : World) (hB : intB a n d t base = true) (h1 : b < 0) : Calls Try.prog 19 #[.int .i64 a, .int .i64 b, .agg #[.int .i64 n, .int .i64 d], .int .i64 t, .int .i64 base] w fun e w' => e = .returned (.int .i64 (0)) ∧ Below w.heap.size w w' := by
  have HB := Lib.hid hB
  clear hB
  go_enter Try.func19, Try.ntmps19
  go_wp2_with (go_at_call 16; refine (c_interestP true _ _ _ _ _ _ HB.out).mono ?_; rintro e w1 ⟨rfl, hb⟩; obtain ⟨hc, hf⟩ := bcell hb; have hBw1 : Below w.heap.size w w1 := Below.trans (by go_grown) (hb.mono (by go_size)); have hzw1 := hBw1.size; have hsw10 : w.heap.size < w1.heap.size := (by have := hb.size; (try simp at this); omega))
  go_ret
  refine ⟨rfl, ?_⟩
  repeat' (first | (with_reducible exact Below.refl _ _) | (with_reducible assumption) | (with_reducible refine below_drewN ?_ _) | (with_reducible refine Below.drew ?_) | (with_reducible refine Below.alloc ?_ ?_ _) | (with_reducible refine Below.setCell ?_ ?_ _) | go_size)

set_option maxHeartbeats 1600000 in
theorem c_fair_hi (a b n d t base : Int) (w : World) (hB : intB a n d t base = true) (h1 : 0 ≤ b) (h2 : 1099511627776 < b) : Calls Try.prog 19 #[.int .i64 a, .int .i64 b, .agg #[.int .i64 n, .int .i64 d], .int .i64 t, .int .i64 base] w fun e w' => e = .returned (.int .i64 (0)) ∧ Below w.heap.size w w' := by
  have HB := Lib.hid hB
  clear hB
  go_enter Try.func19, Try.ntmps19
  go_wp2_with (go_at_call 16; refine (c_interestP true _ _ _ _ _ _ HB.out).mono ?_; rintro e w1 ⟨rfl, hb⟩; obtain ⟨hc, hf⟩ := bcell hb; have hBw1 : Below w.heap.size w w1 := Below.trans (by go_grown) (hb.mono (by go_size)); have hzw1 := hBw1.size; have hsw10 : w.heap.size < w1.heap.size := (by have := hb.size; (try simp at this); omega))
  go_ret
  refine ⟨rfl, ?_⟩
  repeat' (first | (with_reducible exact Below.refl _ _) | (with_reducible assumption) | (with_reducible refine below_drewN ?_ _) | (with_reducible refine Below.drew ?_) | (with_reducible refine Below.alloc ?_ ?_ _) | (with_reducible refine Below.setCell ?_ ?_ _) | go_size)

set_option maxHeartbeats 1600000 in
theorem c_fair_a1 (a b n d t base : Int) (w : World) (hB : intB a n d t base = true) (h1 : 0 ≤ b) (h2 : b ≤ 1099511627776) (h3 : 1099511627776 < intN a n d t base / intD a n d t base) : Calls Try.prog 19 #[.int .i64 a, .int .i64 b, .agg #[.int .i64 n, .int .i64 d], .int .i64 t, .int .i64 base] w fun e w' => e = .returned (.int .i64 (1)) ∧ Below w.heap.size w w' := by
  obtain ⟨f1, f2, f3, f4, f5, f6⟩ := int_facts hB
  have f7 := div_bd _ _ f3 f5
  have f8 := Int.emod_nonneg (intN a n d t base) (show intD a n d t base ≠ 0 by omega)
  have f9 := Int.emod_lt_of_pos (intN a n d t base) (show 0 < intD a n d t base by omega)
  have HB := Lib.hid hB
  clear hB
  go_enter Try.func19, Try.ntmps19
  go_wp2_with (go_at_call 16; refine (c_interestP true _ _ _ _ _ _ HB.out).mono ?_; rintro e w1 ⟨rfl, hb⟩; obtain ⟨hc, hf⟩ := bcell hb; have hBw1 : Below w.heap.size w w1 := Below.trans (by go_grown) (hb.mono (by go_size)); have hzw1 := hBw1.size; have hsw10 : w.heap.size < w1.heap.size := (by have := hb.size; (try simp at this); omega))
  go_ret
  refine ⟨rfl, ?_⟩
  repeat' (first | (with_reducible exact Below.refl _ _) | (with_reducible assumption) | (with_reducible refine below_drewN ?_ _) | (with_reducible refine Below.drew ?_) | (with_reducible refine Below.alloc ?_ ?_ _) | (with_reducible refine Below.setCell ?_ ?_ _) | go_size)

set_option maxHeartbeats 1600000 in
theorem c_fair_a2 (a b n d t base : Int) (w : World) (hB : intB a n d t base = true) (h1 : 0 ≤ b) (h2 : b ≤ 1099511627776) (h3 : intN a n d t base / intD a n d t base ≤ 1099511627776) (h4 : b < a + intN a n d t base / intD a n d t base) : Calls Try.prog 19 #[.int .i64 a, .int .i64 b, .agg #[.int .i64 n, .int .i64 d], .int .i64 t, .int .i64 base] w fun e w' => e = .returned (.int .i64 (1)) ∧ Below w.heap.size w w' := by
  obtain ⟨f1, f2, f3, f4, f5, f6⟩ := int_facts hB
  have f7 := div_bd _ _ f3 f5
  have f8 := Int.emod_nonneg (intN a n d t base) (show intD a n d t base ≠ 0 by omega)
  have f9 := Int.emod_lt_of_pos (intN a n d t base) (show 0 < intD a n d t base by omega)
  have HB := Lib.hid hB
  clear hB
  go_enter Try.func19, Try.ntmps19
  go_wp2_with (go_at_call 16; refine (c_interestP true _ _ _ _ _ _ HB.out).mono ?_; rintro e w1 ⟨rfl, hb⟩; obtain ⟨hc, hf⟩ := bcell hb; have hBw1 : Below w.heap.size w w1 := Below.trans (by go_grown) (hb.mono (by go_size)); have hzw1 := hBw1.size; have hsw10 : w.heap.size < w1.heap.size := (by have := hb.size; (try simp at this); omega))
  go_ret
  refine ⟨rfl, ?_⟩
  repeat' (first | (with_reducible exact Below.refl _ _) | (with_reducible assumption) | (with_reducible refine below_drewN ?_ _) | (with_reducible refine Below.drew ?_) | (with_reducible refine Below.alloc ?_ ?_ _) | (with_reducible refine Below.setCell ?_ ?_ _) | go_size)

set_option maxHeartbeats 1600000 in
theorem c_fair_d (a b n d t base : Int) (w : World) (hB : intB a n d t base = true) (h1 : 0 ≤ b) (h2 : b ≤ 1099511627776) (h3 : intN a n d t base / intD a n d t base ≤ 1099511627776) (h4 : a + intN a n d t base / intD a n d t base < b) : Calls Try.prog 19 #[.int .i64 a, .int .i64 b, .agg #[.int .i64 n, .int .i64 d], .int .i64 t, .int .i64 base] w fun e w' => e = .returned (.int .i64 (-1)) ∧ Below w.heap.size w w' := by
  obtain ⟨f1, f2, f3, f4, f5, f6⟩ := int_facts hB
  have f7 := div_bd _ _ f3 f5
  have f8 := Int.emod_nonneg (intN a n d t base) (show intD a n d t base ≠ 0 by omega)
  have f9 := Int.emod_lt_of_pos (intN a n d t base) (show 0 < intD a n d t base by omega)
  have HB := Lib.hid hB
  clear hB
  go_enter Try.func19, Try.ntmps19
  go_wp2_with (go_at_call 16; refine (c_interestP true _ _ _ _ _ _ HB.out).mono ?_; rintro e w1 ⟨rfl, hb⟩; obtain ⟨hc, hf⟩ := bcell hb; have hBw1 : Below w.heap.size w w1 := Below.trans (by go_grown) (hb.mono (by go_size)); have hzw1 := hBw1.size; have hsw10 : w.heap.size < w1.heap.size := (by have := hb.size; (try simp at this); omega))
  go_ret
  refine ⟨rfl, ?_⟩
  repeat' (first | (with_reducible exact Below.refl _ _) | (with_reducible assumption) | (with_reducible refine below_drewN ?_ _) | (with_reducible refine Below.drew ?_) | (with_reducible refine Below.alloc ?_ ?_ _) | (with_reducible refine Below.setCell ?_ ?_ _) | go_size)

set_option maxHeartbeats 1600000 in
theorem c_fair_e (a b n d t base : Int) (w : World) (hB : intB a n d t base = true) (h1 : 0 ≤ b) (h2 : b ≤ 1099511627776) (h3 : intN a n d t base / intD a n d t base ≤ 1099511627776) (h4 : a + intN a n d t base / intD a n d t base = b) : Calls Try.prog 19 #[.int .i64 a, .int .i64 b, .agg #[.int .i64 n, .int .i64 d], .int .i64 t, .int .i64 base] w fun e w' => e = .returned (.int .i64 (sgn (intN a n d t base % intD a n d t base) 0)) ∧ Below w.heap.size w w' := by
  obtain ⟨f1, f2, f3, f4, f5, f6⟩ := int_facts hB
  have f7 := div_bd _ _ f3 f5
  have f8 := Int.emod_nonneg (intN a n d t base) (show intD a n d t base ≠ 0 by omega)
  have f9 := Int.emod_lt_of_pos (intN a n d t base) (show 0 < intD a n d t base by omega)
  have h5 : a + intN a n d t base / intD a n d t base ≤ b := by omega
  have h6 : b ≤ a + intN a n d t base / intD a n d t base := by omega
  clear h4
  have HB := Lib.hid hB
  clear hB
  go_enter Try.func19, Try.ntmps19
  go_wp2_with (go_at_call 16; refine (c_interestP true _ _ _ _ _ _ HB.out).mono ?_; rintro e w1 ⟨rfl, hb⟩; obtain ⟨hc, hf⟩ := bcell hb; have hBw1 : Below w.heap.size w w1 := Below.trans (by go_grown) (hb.mono (by go_size)); have hzw1 := hBw1.size; have hsw10 : w.heap.size < w1.heap.size := (by have := hb.size; (try simp at this); omega))
  go_region_with (go_at_call 17; refine (c_compare _ _ _ _ _ (by omega) (by omega) (by omega) (by omega) (by omega) (by omega) (by omega) (by omega)).mono ?_; rintro e w2 ⟨rfl, hb⟩; obtain ⟨hc, hf⟩ := bcell hb; have hBw2 : Below w.heap.size w w2 := Below.trans (by go_grown) (hb.mono (by go_size)); have hzw2 := hBw2.size; have hsw20 : w.heap.size < w2.heap.size := (by have := hb.size; (try simp at this); omega); have hsw21 : w1.heap.size < w2.heap.size := (by have := hb.size; (try simp at this); omega))
  all_goals
    go_wp2
    go_ret
    refine ⟨?_, ?_⟩
    · go_simp
    repeat' (first | (with_reducible exact Below.refl _ _) | (with_reducible assumption) | (with_reducible refine below_drewN ?_ _) | (with_reducible refine Below.drew ?_) | (with_reducible refine Below.alloc ?_ ?_ _) | (with_reducible refine Below.setCell ?_ ?_ _) | go_size)

set_option maxHeartbeats 1600000 in
theorem c_fairR_f (a b n d t base : Int) (w : World) (hB : intB a n d t base = false) : Calls Try.prog 20 #[.int .i64 a, .int .i64 b, .agg #[.int .i64 n, .int .i64 d], .int .i64 t, .int .i64 base] w fun e w' => e = .returned (.int .i64 (0)) ∧ Below w.heap.size w w' := by
  have HB := Lib.hid hB
  clear hB
  go_enter Try.func20, Try.ntmps20
  go_wp2_with (go_at_call 42; refine (c_interestR false _ _ _ _ _ _ HB.out).mono ?_; rintro e w1 ⟨rfl, hb⟩; obtain ⟨hc, hf⟩ := bcell hb; have hBw1 : Below w.heap.size w w1 := Below.trans (by go_grown) (hb.mono (by go_size)); have hzw1 := hBw1.size; have hsw10 : w.heap.size < w1.heap.size := (by have := hb.size; (try simp at this); omega))
  go_ret
  refine ⟨rfl, ?_⟩
  repeat' (first | (with_reducible exact Below.refl _ _) | (with_reducible assumption) | (with_reducible refine below_drewN ?_ _) | (with_reducible refine Below.drew ?_) | (with_reducible refine Below.alloc ?_ ?_ _) | (with_reducible refine Below.setCell ?_ ?_ _) | go_size)

set_option maxHeartbeats 1600000 in
theorem c_fairR_lo (a b n d t base : Int) (w : World) (hB : intB a n d t base = true) (h1 : b < 0) : Calls Try.prog 20 #[.int .i64 a, .int .i64 b, .agg #[.int .i64 n, .int .i64 d], .int .i64 t, .int .i64 base] w fun e w' => e = .returned (.int .i64 (0)) ∧ Below w.heap.size w w' := by
  have HB := Lib.hid hB
  clear hB
  go_enter Try.func20, Try.ntmps20
  go_wp2_with (go_at_call 42; refine (c_interestR true _ _ _ _ _ _ HB.out).mono ?_; rintro e w1 ⟨rfl, hb⟩; obtain ⟨hc, hf⟩ := bcell hb; have hBw1 : Below w.heap.size w w1 := Below.trans (by go_grown) (hb.mono (by go_size)); have hzw1 := hBw1.size; have hsw10 : w.heap.size < w1.heap.size := (by have := hb.size; (try simp at this); omega))
  go_ret
  refine ⟨rfl, ?_⟩
  repeat' (first | (with_reducible exact Below.refl _ _) | (with_reducible assumption) | (with_reducible refine below_drewN ?_ _) | (with_reducible refine Below.drew ?_) | (with_reducible refine Below.alloc ?_ ?_ _) | (with_reducible refine Below.setCell ?_ ?_ _) | go_size)

set_option maxHeartbeats 1600000 in
theorem c_fairR_hi (a b n d t base : Int) (w : World) (hB : intB a n d t base = true) (h1 : 0 ≤ b) (h2 : 1099511627776 < b) : Calls Try.prog 20 #[.int .i64 a, .int .i64 b, .agg #[.int .i64 n, .int .i64 d], .int .i64 t, .int .i64 base] w fun e w' => e = .returned (.int .i64 (0)) ∧ Below w.heap.size w w' := by
  have HB := Lib.hid hB
  clear hB
  go_enter Try.func20, Try.ntmps20
  go_wp2_with (go_at_call 42; refine (c_interestR true _ _ _ _ _ _ HB.out).mono ?_; rintro e w1 ⟨rfl, hb⟩; obtain ⟨hc, hf⟩ := bcell hb; have hBw1 : Below w.heap.size w w1 := Below.trans (by go_grown) (hb.mono (by go_size)); have hzw1 := hBw1.size; have hsw10 : w.heap.size < w1.heap.size := (by have := hb.size; (try simp at this); omega))
  go_ret
  refine ⟨rfl, ?_⟩
  repeat' (first | (with_reducible exact Below.refl _ _) | (with_reducible assumption) | (with_reducible refine below_drewN ?_ _) | (with_reducible refine Below.drew ?_) | (with_reducible refine Below.alloc ?_ ?_ _) | (with_reducible refine Below.setCell ?_ ?_ _) | go_size)

set_option maxHeartbeats 1600000 in
theorem c_fairR_a (a b n d t base : Int) (w : World) (hB : intB a n d t base = true) (h1 : 0 ≤ b) (h2 : b ≤ 1099511627776) (h3 : b - a < intN a n d t base / intD a n d t base) : Calls Try.prog 20 #[.int .i64 a, .int .i64 b, .agg #[.int .i64 n, .int .i64 d], .int .i64 t, .int .i64 base] w fun e w' => e = .returned (.int .i64 (1)) ∧ Below w.heap.size w w' := by
  obtain ⟨f1, f2, f3, f4, f5, f6⟩ := int_facts hB
  have f7 := div_bd _ _ f3 f5
  have f8 := Int.emod_nonneg (intN a n d t base) (show intD a n d t base ≠ 0 by omega)
  have f9 := Int.emod_lt_of_pos (intN a n d t base) (show 0 < intD a n d t base by omega)
  have HB := Lib.hid hB
  clear hB
  go_enter Try.func20, Try.ntmps20
  go_wp2_with (go_at_call 42; refine (c_interestR true _ _ _ _ _ _ HB.out).mono ?_; rintro e w1 ⟨rfl, hb⟩; obtain ⟨hc, hf⟩ := bcell hb; have hBw1 : Below w.heap.size w w1 := Below.trans (by go_grown) (hb.mono (by go_size)); have hzw1 := hBw1.size; have hsw10 : w.heap.size < w1.heap.size := (by have := hb.size; (try simp at this); omega))
  go_quiet (fail)
  go_wp2
  go_ret
  refine ⟨rfl, ?_⟩
  repeat' (first | (with_reducible exact Below.refl _ _) | (with_reducible assumption) | (with_reducible refine below_drewN ?_ _) | (with_reducible refine Below.drew ?_) | (with_reducible refine Below.alloc ?_ ?_ _) | (with_reducible refine Below.setCell ?_ ?_ _) | go_size)

set_option maxHeartbeats 1600000 in
theorem c_fairR_d (a b n d t base : Int) (w : World) (hB : intB a n d t base = true) (h1 : 0 ≤ b) (h2 : b ≤ 1099511627776) (h3 : intN a n d t base / intD a n d t base < b - a) : Calls Try.prog 20 #[.int .i64 a, .int .i64 b, .agg #[.int .i64 n, .int .i64 d], .int .i64 t, .int .i64 base] w fun e w' => e = .returned (.int .i64 (-1)) ∧ Below w.heap.size w w' := by
  obtain ⟨f1, f2, f3, f4, f5, f6⟩ := int_facts hB
  have f7 := div_bd _ _ f3 f5
  have f8 := Int.emod_nonneg (intN a n d t base) (show intD a n d t base ≠ 0 by omega)
  have f9 := Int.emod_lt_of_pos (intN a n d t base) (show 0 < intD a n d t base by omega)
  have HB := Lib.hid hB
  clear hB
  go_enter Try.func20, Try.ntmps20
  go_wp2_with (go_at_call 42; refine (c_interestR true _ _ _ _ _ _ HB.out).mono ?_; rintro e w1 ⟨rfl, hb⟩; obtain ⟨hc, hf⟩ := bcell hb; have hBw1 : Below w.heap.size w w1 := Below.trans (by go_grown) (hb.mono (by go_size)); have hzw1 := hBw1.size; have hsw10 : w.heap.size < w1.heap.size := (by have := hb.size; (try simp at this); omega))
  go_quiet (fail)
  go_wp2
  go_ret
  refine ⟨rfl, ?_⟩
  repeat' (first | (with_reducible exact Below.refl _ _) | (with_reducible assumption) | (with_reducible refine below_drewN ?_ _) | (with_reducible refine Below.drew ?_) | (with_reducible refine Below.alloc ?_ ?_ _) | (with_reducible refine Below.setCell ?_ ?_ _) | go_size)

set_option maxHeartbeats 1600000 in
theorem c_fairR_b (a b n d t base : Int) (w : World) (hB : intB a n d t base = true) (h1 : 0 ≤ b) (h2 : b ≤ 1099511627776) (h3 : intN a n d t base / intD a n d t base = b - a) (h4 : 0 < intN a n d t base % intD a n d t base) : Calls Try.prog 20 #[.int .i64 a, .int .i64 b, .agg #[.int .i64 n, .int .i64 d], .int .i64 t, .int .i64 base] w fun e w' => e = .returned (.int .i64 (1)) ∧ Below w.heap.size w w' := by
  obtain ⟨f1, f2, f3, f4, f5, f6⟩ := int_facts hB
  have f7 := div_bd _ _ f3 f5
  have f8 := Int.emod_nonneg (intN a n d t base) (show intD a n d t base ≠ 0 by omega)
  have f9 := Int.emod_lt_of_pos (intN a n d t base) (show 0 < intD a n d t base by omega)
  have h5 : intN a n d t base / intD a n d t base ≤ b - a := by omega
  have h6 : b - a ≤ intN a n d t base / intD a n d t base := by omega
  clear h3
  have HB := Lib.hid hB
  clear hB
  go_enter Try.func20, Try.ntmps20
  go_wp2_with (go_at_call 42; refine (c_interestR true _ _ _ _ _ _ HB.out).mono ?_; rintro e w1 ⟨rfl, hb⟩; obtain ⟨hc, hf⟩ := bcell hb; have hBw1 : Below w.heap.size w w1 := Below.trans (by go_grown) (hb.mono (by go_size)); have hzw1 := hBw1.size; have hsw10 : w.heap.size < w1.heap.size := (by have := hb.size; (try simp at this); omega))
  go_quiet (fail)
  go_wp2
  go_ret
  refine ⟨rfl, ?_⟩
  repeat' (first | (with_reducible exact Below.refl _ _) | (with_reducible assumption) | (with_reducible refine below_drewN ?_ _) | (with_reducible refine Below.drew ?_) | (with_reducible refine Below.alloc ?_ ?_ _) | (with_reducible refine Below.setCell ?_ ?_ _) | go_size)

set_option maxHeartbeats 1600000 in
theorem c_fairR_c (a b n d t base : Int) (w : World) (hB : intB a n d t base = true) (h1 : 0 ≤ b) (h2 : b ≤ 1099511627776) (h3 : intN a n d t base / intD a n d t base = b - a) (h4 : intN a n d t base % intD a n d t base ≤ 0) : Calls Try.prog 20 #[.int .i64 a, .int .i64 b, .agg #[.int .i64 n, .int .i64 d], .int .i64 t, .int .i64 base] w fun e w' => e = .returned (.int .i64 (0)) ∧ Below w.heap.size w w' := by
  obtain ⟨f1, f2, f3, f4, f5, f6⟩ := int_facts hB
  have f7 := div_bd _ _ f3 f5
  have f8 := Int.emod_nonneg (intN a n d t base) (show intD a n d t base ≠ 0 by omega)
  have f9 := Int.emod_lt_of_pos (intN a n d t base) (show 0 < intD a n d t base by omega)
  have h5 : intN a n d t base / intD a n d t base ≤ b - a := by omega
  have h6 : b - a ≤ intN a n d t base / intD a n d t base := by omega
  clear h3
  have HB := Lib.hid hB
  clear hB
  go_enter Try.func20, Try.ntmps20
  go_wp2_with (go_at_call 42; refine (c_interestR true _ _ _ _ _ _ HB.out).mono ?_; rintro e w1 ⟨rfl, hb⟩; obtain ⟨hc, hf⟩ := bcell hb; have hBw1 : Below w.heap.size w w1 := Below.trans (by go_grown) (hb.mono (by go_size)); have hzw1 := hBw1.size; have hsw10 : w.heap.size < w1.heap.size := (by have := hb.size; (try simp at this); omega))
  go_quiet (fail)
  go_wp2
  go_ret
  refine ⟨rfl, ?_⟩
  repeat' (first | (with_reducible exact Below.refl _ _) | (with_reducible assumption) | (with_reducible refine below_drewN ?_ _) | (with_reducible refine Below.drew ?_) | (with_reducible refine Below.alloc ?_ ?_ _) | (with_reducible refine Below.setCell ?_ ?_ _) | go_size)

theorem c_fair (a b n d t base : Int) (w : World) : Calls Try.prog 19 #[.int .i64 a, .int .i64 b, .agg #[.int .i64 n, .int .i64 d], .int .i64 t, .int .i64 base] w fun e w' => e = .returned (.int .i64 (fairV a b n d t base)) ∧ Below w.heap.size w w' := by
  cases hB : intB a n d t base with
  | false => unfold fairV; rw [if_neg (by simp [hB])]; exact c_fair_f a b n d t base w hB
  | true =>
    by_cases h1 : b < 0
    · unfold fairV; rw [if_neg (by omega)]; exact c_fair_lo a b n d t base w hB h1
    · by_cases h2 : 1099511627776 < b
      · unfold fairV; rw [if_neg (by omega)]; exact c_fair_hi a b n d t base w hB (by omega) h2
      · have hf := int_facts hB
        unfold fairV
        rw [if_pos ⟨hB, by omega, by omega⟩]
        by_cases h3 : 1099511627776 < intN a n d t base / intD a n d t base
        · rw [if_pos (by omega)]; exact c_fair_a1 a b n d t base w hB (by omega) (by omega) h3
        · by_cases h4 : b - a < intN a n d t base / intD a n d t base
          · rw [if_pos h4]; exact c_fair_a2 a b n d t base w hB (by omega) (by omega) (by omega) (by omega)
          · rw [if_neg h4]
            by_cases h5 : intN a n d t base / intD a n d t base < b - a
            · rw [if_pos h5]; exact c_fair_d a b n d t base w hB (by omega) (by omega) (by omega) (by omega)
            · rw [if_neg h5]
              have := c_fair_e a b n d t base w hB (by omega) (by omega) (by omega) (by omega)
              have h0 := Int.emod_nonneg (intN a n d t base) (show intD a n d t base ≠ 0 by omega)
              by_cases h6 : 0 < intN a n d t base % intD a n d t base
              · rw [if_pos h6]; rwa [sgn_pos _ h6] at this
              · rw [if_neg h6]; rwa [sgn_zero _ (by omega)] at this
theorem c_fairR (a b n d t base : Int) (w : World) : Calls Try.prog 20 #[.int .i64 a, .int .i64 b, .agg #[.int .i64 n, .int .i64 d], .int .i64 t, .int .i64 base] w fun e w' => e = .returned (.int .i64 (fairV a b n d t base)) ∧ Below w.heap.size w w' := by
  cases hB : intB a n d t base with
  | false => unfold fairV; rw [if_neg (by simp [hB])]; exact c_fairR_f a b n d t base w hB
  | true =>
    by_cases h1 : b < 0
    · unfold fairV; rw [if_neg (by omega)]; exact c_fairR_lo a b n d t base w hB h1
    · by_cases h2 : 1099511627776 < b
      · unfold fairV; rw [if_neg (by omega)]; exact c_fairR_hi a b n d t base w hB (by omega) h2
      · unfold fairV
        rw [if_pos ⟨hB, by omega, by omega⟩]
        by_cases h4 : b - a < intN a n d t base / intD a n d t base
        · rw [if_pos h4]; exact c_fairR_a a b n d t base w hB (by omega) (by omega) h4
        · rw [if_neg h4]
          by_cases h5 : intN a n d t base / intD a n d t base < b - a
          · rw [if_pos h5]; exact c_fairR_d a b n d t base w hB (by omega) (by omega) h5
          · rw [if_neg h5]
            by_cases h6 : 0 < intN a n d t base % intD a n d t base
            · rw [if_pos h6]; exact c_fairR_b a b n d t base w hB (by omega) (by omega) (by omega) h6
            · rw [if_neg h6]; exact c_fairR_c a b n d t base w hB (by omega) (by omega) (by omega) (by omega)

/-- At no days a sum is worth itself. -/
theorem fair_zero {a n d base : Int} (h : intB a n d 0 base = true) : fairV a a n d 0 base = 0 ∧ (1 ≤ a → fairV a (a - 1) n d 0 base = 1) ∧ (a < 1099511627776 → fairV a (a + 1) n d 0 base = -1) := by
  have hv : validB a n d 0 base = true := by
    unfold intB at h
    simp only [Bool.and_eq_true] at h
    exact h.1
  obtain ⟨e1, e2⟩ := int_zero hv (.inr (.inr rfl))
  obtain ⟨f1, f2, _⟩ := int_facts h
  unfold fairV
  rw [e1, e2]
  refine ⟨?_, fun k => ?_, fun k => ?_⟩
  · rw [if_pos ⟨h, by omega, by omega⟩, if_neg (by simp), if_neg (by simp), if_neg (by simp)]
  · rw [if_pos ⟨h, by omega, by omega⟩, if_pos (by simp; omega)]
  · rw [if_pos ⟨h, by omega, by omega⟩, if_neg (by simp; omega), if_pos (by simp; omega)]

end Go.Proofs.Ytagdibogjlmgmaa
