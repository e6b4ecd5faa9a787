/-
  The law DiscountLonger: its walk.
-/
import Derived.Test.YtagdibogjlmgmaaA3
namespace Go.Proofs.Ytagdibogjlmgmaa
set_option linter.unusedVariables false
set_option linter.unusedSimpArgs false
open Go.RowKit

/-- Is there a rebate? -/
def rebB (s n d t base : Int) : Bool := intB s n d t base && decide (intN s n d t base / intD s n d t base ≤ 1099511627776)
def iN (b : Bool) (s n d t base : Int) : Int := if b = true then intN s n d t base else 0
def iD (b : Bool) (s n d t base : Int) : Int := if b = true then intD s n d t base else 0
def rV (b : Bool) (s n d t base : Int) : Int := if b = true then intN s n d t base / intD s n d t base else 0

@[simp] theorem iN_true (s n d t base : Int) : iN true s n d t base = intN s n d t base := rfl
@[simp] theorem iD_true (s n d t base : Int) : iD true s n d t base = intD s n d t base := rfl
@[simp] theorem rV_true (s n d t base : Int) : rV true s n d t base = intN s n d t base / intD s n d t base := rfl

theorem c_interest (b : Bool) (s n d t base : Int) (w : World) (hB : intB s n d t base = b) :
    Calls Try.prog 16 #[.int .i64 s, .agg #[.int .i64 n, .int .i64 d], .int .i64 t, .int .i64 base] w fun e w' =>
      e = .returned (.tuple #[.agg #[.int .i64 (iN b s n d t base), .int .i64 (iD b s n d t base)], .bool b]) ∧ Below w.heap.size w w' := by
  cases b
  · exact c_interest_f s n d t base w hB
  · exact c_interest_t s n d t base w hB

theorem c_rebate (b : Bool) (s n d t base : Int) (w : World) (hB : rebB s n d t base = b) :
    Calls Try.prog 18 #[.int .i64 s, .agg #[.int .i64 n, .int .i64 d], .int .i64 t, .int .i64 base] w fun e w' =>
      e = .returned (.tuple #[.int .i64 (rV b s n d t base), .bool b]) ∧ Below w.heap.size w w' := by
  unfold rebB at hB
  cases b
  · cases h : intB s n d t base with
    | false => exact c_rebate_f s n d t base w h
    | true =>
      simp only [h, Bool.true_and, decide_eq_false_iff_not] at hB
      exact c_rebate_n s n d t base w h (by omega)
  · simp only [Bool.and_eq_true, decide_eq_true_eq] at hB
    exact c_rebate_t s n d t base w hB.1 hB.2

theorem intB_valid {s n d t base : Int} (h : intB s n d t base = true) : validB s n d t base = true := by
  unfold intB at h
  simp only [Bool.and_eq_true] at h
  exact h.1

theorem longer_sgn {s n t s' n' t' d base : Int} (hB : intB s n d t base = true) (hB' : intB s' n' d t' base = true) (h1 : s ≤ s') (h2 : n ≤ n') (h3 : t ≤ t') :
    sgn (intN s n d t base * intD s' n' d t' base) (intN s' n' d t' base * intD s n d t base) ≤ 0 ∧ intN s n d t base / intD s n d t base ≤ intN s' n' d t' base / intD s' n' d t' base := by
  have v := intB_valid hB
  have v' := intB_valid hB'
  have hQ := valid_D v
  have hP : s * n * t ≤ s' * n' * t' := by
    unfold validB at v v'
    simp only [decide_eq_true_eq] at v v'
    have a : s * n ≤ s' * n' := Int.mul_le_mul h1 h2 (by omega) (by omega)
    have b : 0 ≤ s' * n' := Int.mul_nonneg (by omega) (by omega)
    exact Int.mul_le_mul a h3 (by omega) b
  have e := int_eq v
  have e' := int_eq v'
  obtain ⟨_, _, a1, _, a2, _⟩ := int_facts hB
  obtain ⟨_, _, b1, _, b2, _⟩ := int_facts hB'
  generalize intN s n d t base = N at *
  generalize intD s n d t base = D at *
  generalize intN s' n' d t' base = N' at *
  generalize intD s' n' d t' base = D' at *
  generalize s * n * t = P at *
  generalize s' * n' * t' = P' at *
  generalize d * base = Q at *
  have k : N * D' ≤ N' * D := by
    have x1 : N * D' * Q = P * (D * D') := by rw [Int.mul_right_comm, e, Int.mul_assoc]
    have x2 : N' * D * Q = P' * (D * D') := by rw [Int.mul_right_comm, e', Int.mul_assoc, Int.mul_comm D' D]
    have x3 : P * (D * D') ≤ P' * (D * D') := Int.mul_le_mul_of_nonneg_right hP (Int.mul_nonneg (by omega) (by omega))
    exact Int.le_of_mul_le_mul_right (by rw [x1, x2]; exact x3) (show 0 < Q by omega)
  refine ⟨?_, ?_⟩
  · unfold sgn
    split
    · decide
    · rw [if_neg (by omega)]; decide
  · have y (N P D : Int) (e : N * Q = P * D) (hD : 1 ≤ D) : N / D = P / Q := by
      rw [← Int.mul_ediv_mul_of_pos N D (show 0 < Q by omega), Int.mul_comm Q N, e, Int.mul_comm P D, Int.mul_comm Q D, Int.mul_ediv_mul_of_pos P Q (show 0 < D by omega)]
    rw [y N P D e a2, y N' P' D' e' b2]
    exact Int.ediv_le_ediv (by omega) hP

set_option maxHeartbeats 6400000 in
theorem l_longer_00 (s m n d dr t lg base : Int) (w : World) (a1 : 0 ≤ m) (a2 : 0 ≤ dr) (a3 : 0 ≤ lg) (a4 : m ≤ 1099511627776) (a5 : dr ≤ 1048576) (a6 : lg ≤ 1048576)
    (a7 : 0 ≤ n) (a8 : n ≤ 1048576) (a9 : 0 ≤ s) (b1 : s ≤ 1099511627776) (b2 : 0 ≤ t) (b3 : t ≤ 1048576)
    (r1 r2 : Bool) (hB1 : intB s n d t base = false) (hB2 : intB (s + m) (n + dr) d (t + lg) base = false) (hR1 : rebB s n d t base = r1) (hR2 : rebB (s + m) (n + dr) d (t + lg) base = r2) :
    Calls Try.prog 4 #[.int .i64 s, .int .i64 m, .agg #[.int .i64 n, .int .i64 d], .int .i64 dr, .int .i64 t, .int .i64 lg, .int .i64 base] w fun e w' => e = .returned (.bool true) ∧ Below w.heap.size w w' := by
  cases r1 <;> cases r2
  · have tk1 : True := trivial
    have tk2 : True := trivial
    have tk3 : True := trivial
    have tk4 : True := trivial
    have H1 := Lib.hid hB1
    have H2 := Lib.hid hB2
    have H3 := Lib.hid hR1
    have H4 := Lib.hid hR2
    clear hB1 hB2 hR1 hR2
    go_enter Try.func4, Try.ntmps4
    go_wp2_with (first | (go_at_call 14; refine (c_awake39 _).mono ?_; rintro e w1 ⟨rfl, hb⟩; obtain ⟨hc, hf⟩ := bcell hb; have hBw1 : Below w.heap.size w w1 := Below.trans (by go_grown) (hb.mono (by go_size)); have hzw1 := hBw1.size; have hsw10 : w.heap.size < w1.heap.size := (by have := hb.size; (try simp at this); omega)) | (have _tk := tk1; go_at_call 16; refine (c_interest _ _ _ _ _ _ _ H1.out).mono ?_; rintro e w2 ⟨rfl, hb⟩; obtain ⟨hc, hf⟩ := bcell hb; have hBw2 : Below w.heap.size w w2 := Below.trans (by go_grown) (hb.mono (by go_size)); have hzw2 := hBw2.size; have hsw20 : w.heap.size < w2.heap.size := (by have := hb.size; (try simp at this); omega); have hsw21 : w1.heap.size < w2.heap.size := (by have := hb.size; (try simp at this); omega); clear _tk tk1) | (have _tk := tk2; go_at_call 16; refine (c_interest _ _ _ _ _ _ _ H2.out).mono ?_; rintro e w3 ⟨rfl, hb⟩; obtain ⟨hc, hf⟩ := bcell hb; have hBw3 : Below w.heap.size w w3 := Below.trans (by go_grown) (hb.mono (by go_size)); have hzw3 := hBw3.size; have hsw30 : w.heap.size < w3.heap.size := (by have := hb.size; (try simp at this); omega); have hsw31 : w1.heap.size < w3.heap.size := (by have := hb.size; (try simp at this); omega); have hsw32 : w2.heap.size < w3.heap.size := (by have := hb.size; (try simp at this); omega); clear _tk tk2) | (have _tk := tk3; go_at_call 18; refine (c_rebate _ _ _ _ _ _ _ H3.out).mono ?_; rintro e w4 ⟨rfl, hb⟩; obtain ⟨hc, hf⟩ := bcell hb; have hBw4 : Below w.heap.size w w4 := Below.trans (by go_grown) (hb.mono (by go_size)); have hzw4 := hBw4.size; have hsw40 : w.heap.size < w4.heap.size := (by have := hb.size; (try simp at this); omega); have hsw41 : w1.heap.size < w4.heap.size := (by have := hb.size; (try simp at this); omega); have hsw42 : w2.heap.size < w4.heap.size := (by have := hb.size; (try simp at this); omega); have hsw43 : w3.heap.size < w4.heap.size := (by have := hb.size; (try simp at this); omega); clear _tk tk3) | (have _tk := tk4; go_at_call 18; refine (c_rebate _ _ _ _ _ _ _ H4.out).mono ?_; rintro e w5 ⟨rfl, hb⟩; obtain ⟨hc, hf⟩ := bcell hb; have hBw5 : Below w.heap.size w w5 := Below.trans (by go_grown) (hb.mono (by go_size)); have hzw5 := hBw5.size; have hsw50 : w.heap.size < w5.heap.size := (by have := hb.size; (try simp at this); omega); have hsw51 : w1.heap.size < w5.heap.size := (by have := hb.size; (try simp at this); omega); have hsw52 : w2.heap.size < w5.heap.size := (by have := hb.size; (try simp at this); omega); have hsw53 : w3.heap.size < w5.heap.size := (by have := hb.size; (try simp at this); omega); clear _tk tk4) | (go_at_call 17; refine (c_compare _ _ _ _ _ (by omega) (by omega) (by omega) (by omega) (by omega) (by omega) (by omega) (by omega)).mono ?_; rintro e w6 ⟨rfl, hb⟩; obtain ⟨hc, hf⟩ := bcell hb; have hBw6 : Below w.heap.size w w6 := Below.trans (by go_grown) (hb.mono (by go_size)); have hzw6 := hBw6.size; have hsw60 : w.heap.size < w6.heap.size := (by have := hb.size; (try simp at this); omega); have hsw61 : w2.heap.size < w6.heap.size := (by have := hb.size; (try simp at this); omega); have hsw62 : w3.heap.size < w6.heap.size := (by have := hb.size; (try simp at this); omega)))
    all_goals
      go_ret
      refine ⟨rfl, ?_⟩
      repeat' (first | (with_reducible exact Below.refl _ _) | (with_reducible assumption) | (with_reducible refine below_drewN ?_ _) | (with_reducible refine Below.drew ?_) | (with_reducible refine Below.alloc ?_ ?_ _) | (with_reducible refine Below.setCell ?_ ?_ _) | go_size)
  · unfold rebB at hR2; simp [hB2] at hR2
  · unfold rebB at hR1; simp [hB1] at hR1
  · unfold rebB at hR1; simp [hB1] at hR1

set_option maxHeartbeats 6400000 in
theorem l_longer_01 (s m n d dr t lg base : Int) (w : World) (a1 : 0 ≤ m) (a2 : 0 ≤ dr) (a3 : 0 ≤ lg) (a4 : m ≤ 1099511627776) (a5 : dr ≤ 1048576) (a6 : lg ≤ 1048576)
    (a7 : 0 ≤ n) (a8 : n ≤ 1048576) (a9 : 0 ≤ s) (b1 : s ≤ 1099511627776) (b2 : 0 ≤ t) (b3 : t ≤ 1048576)
    (r1 r2 : Bool) (hB1 : intB s n d t base = false) (hB2 : intB (s + m) (n + dr) d (t + lg) base = true) (hR1 : rebB s n d t base = r1) (hR2 : rebB (s + m) (n + dr) d (t + lg) base = r2) :
    Calls Try.prog 4 #[.int .i64 s, .int .i64 m, .agg #[.int .i64 n, .int .i64 d], .int .i64 dr, .int .i64 t, .int .i64 lg, .int .i64 base] w fun e w' => e = .returned (.bool true) ∧ Below w.heap.size w w' := by
  cases r1 <;> cases r2
  · have tk1 : True := trivial
    have tk2 : True := trivial
    have tk3 : True := trivial
    have tk4 : True := trivial
    have H1 := Lib.hid hB1
    have H2 := Lib.hid hB2
    have H3 := Lib.hid hR1
    have H4 := Lib.hid hR2
    clear hB1 hB2 hR1 hR2
    go_enter Try.func4, Try.ntmps4
    go_wp2_with (first | (go_at_call 14; refine (c_awake39 _).mono ?_; rintro e w1 ⟨rfl, hb⟩; obtain ⟨hc, hf⟩ := bcell hb; have hBw1 : Below w.heap.size w w1 := Below.trans (by go_grown) (hb.mono (by go_size)); have hzw1 := hBw1.size; have hsw10 : w.heap.size < w1.heap.size := (by have := hb.size; (try simp at this); omega)) | (have _tk := tk1; go_at_call 16; refine (c_interest _ _ _ _ _ _ _ H1.out).mono ?_; rintro e w2 ⟨rfl, hb⟩; obtain ⟨hc, hf⟩ := bcell hb; have hBw2 : Below w.heap.size w w2 := Below.trans (by go_grown) (hb.mono (by go_size)); have hzw2 := hBw2.size; have hsw20 : w.heap.size < w2.heap.size := (by have := hb.size; (try simp at this); omega); have hsw21 : w1.heap.size < w2.heap.size := (by have := hb.size; (try simp at this); omega); clear _tk tk1) | (have _tk := tk2; go_at_call 16; refine (c_interest _ _ _ _ _ _ _ H2.out).mono ?_; rintro e w3 ⟨rfl, hb⟩; obtain ⟨hc, hf⟩ := bcell hb; have hBw3 : Below w.heap.size w w3 := Below.trans (by go_grown) (hb.mono (by go_size)); have hzw3 := hBw3.size; have hsw30 : w.heap.size < w3.heap.size := (by have := hb.size; (try simp at this); omega); have hsw31 : w1.heap.size < w3.heap.size := (by have := hb.size; (try simp at this); omega); have hsw32 : w2.heap.size < w3.heap.size := (by have := hb.size; (try simp at this); omega); clear _tk tk2) | (have _tk := tk3; go_at_call 18; refine (c_rebate _ _ _ _ _ _ _ H3.out).mono ?_; rintro e w4 ⟨rfl, hb⟩; obtain ⟨hc, hf⟩ := bcell hb; have hBw4 : Below w.heap.size w w4 := Below.trans (by go_grown) (hb.mono (by go_size)); have hzw4 := hBw4.size; have hsw40 : w.heap.size < w4.heap.size := (by have := hb.size; (try simp at this); omega); have hsw41 : w1.heap.size < w4.heap.size := (by have := hb.size; (try simp at this); omega); have hsw42 : w2.heap.size < w4.heap.size := (by have := hb.size; (try simp at this); omega); have hsw43 : w3.heap.size < w4.heap.size := (by have := hb.size; (try simp at this); omega); clear _tk tk3) | (have _tk := tk4; go_at_call 18; refine (c_rebate _ _ _ _ _ _ _ H4.out).mono ?_; rintro e w5 ⟨rfl, hb⟩; obtain ⟨hc, hf⟩ := bcell hb; have hBw5 : Below w.heap.size w w5 := Below.trans (by go_grown) (hb.mono (by go_size)); have hzw5 := hBw5.size; have hsw50 : w.heap.size < w5.heap.size := (by have := hb.size; (try simp at this); omega); have hsw51 : w1.heap.size < w5.heap.size := (by have := hb.size; (try simp at this); omega); have hsw52 : w2.heap.size < w5.heap.size := (by have := hb.size; (try simp at this); omega); have hsw53 : w3.heap.size < w5.heap.size := (by have := hb.size; (try simp at this); omega); clear _tk tk4) | (go_at_call 17; refine (c_compare _ _ _ _ _ (by omega) (by omega) (by omega) (by omega) (by omega) (by omega) (by omega) (by omega)).mono ?_; rintro e w6 ⟨rfl, hb⟩; obtain ⟨hc, hf⟩ := bcell hb; have hBw6 : Below w.heap.size w w6 := Below.trans (by go_grown) (hb.mono (by go_size)); have hzw6 := hBw6.size; have hsw60 : w.heap.size < w6.heap.size := (by have := hb.size; (try simp at this); omega); have hsw61 : w2.heap.size < w6.heap.size := (by have := hb.size; (try simp at this); omega); have hsw62 : w3.heap.size < w6.heap.size := (by have := hb.size; (try simp at this); omega)))
    all_goals
      go_ret
      refine ⟨rfl, ?_⟩
      repeat' (first | (with_reducible exact Below.refl _ _) | (with_reducible assumption) | (with_reducible refine below_drewN ?_ _) | (with_reducible refine Below.drew ?_) | (with_reducible refine Below.alloc ?_ ?_ _) | (with_reducible refine Below.setCell ?_ ?_ _) | go_size)
  · have tk1 : True := trivial
    have tk2 : True := trivial
    have tk3 : True := trivial
    have tk4 : True := trivial
    have H1 := Lib.hid hB1
    have H2 := Lib.hid hB2
    have H3 := Lib.hid hR1
    have H4 := Lib.hid hR2
    clear hB1 hB2 hR1 hR2
    go_enter Try.func4, Try.ntmps4
    go_wp2_with (first | (go_at_call 14; refine (c_awake39 _).mono ?_; rintro e w1 ⟨rfl, hb⟩; obtain ⟨hc, hf⟩ := bcell hb; have hBw1 : Below w.heap.size w w1 := Below.trans (by go_grown) (hb.mono (by go_size)); have hzw1 := hBw1.size; have hsw10 : w.heap.size < w1.heap.size := (by have := hb.size; (try simp at this); omega)) | (have _tk := tk1; go_at_call 16; refine (c_interest _ _ _ _ _ _ _ H1.out).mono ?_; rintro e w2 ⟨rfl, hb⟩; obtain ⟨hc, hf⟩ := bcell hb; have hBw2 : Below w.heap.size w w2 := Below.trans (by go_grown) (hb.mono (by go_size)); have hzw2 := hBw2.size; have hsw20 : w.heap.size < w2.heap.size := (by have := hb.size; (try simp at this); omega); have hsw21 : w1.heap.size < w2.heap.size := (by have := hb.size; (try simp at this); omega); clear _tk tk1) | (have _tk := tk2; go_at_call 16; refine (c_interest _ _ _ _ _ _ _ H2.out).mono ?_; rintro e w3 ⟨rfl, hb⟩; obtain ⟨hc, hf⟩ := bcell hb; have hBw3 : Below w.heap.size w w3 := Below.trans (by go_grown) (hb.mono (by go_size)); have hzw3 := hBw3.size; have hsw30 : w.heap.size < w3.heap.size := (by have := hb.size; (try simp at this); omega); have hsw31 : w1.heap.size < w3.heap.size := (by have := hb.size; (try simp at this); omega); have hsw32 : w2.heap.size < w3.heap.size := (by have := hb.size; (try simp at this); omega); clear _tk tk2) | (have _tk := tk3; go_at_call 18; refine (c_rebate _ _ _ _ _ _ _ H3.out).mono ?_; rintro e w4 ⟨rfl, hb⟩; obtain ⟨hc, hf⟩ := bcell hb; have hBw4 : Below w.heap.size w w4 := Below.trans (by go_grown) (hb.mono (by go_size)); have hzw4 := hBw4.size; have hsw40 : w.heap.size < w4.heap.size := (by have := hb.size; (try simp at this); omega); have hsw41 : w1.heap.size < w4.heap.size := (by have := hb.size; (try simp at this); omega); have hsw42 : w2.heap.size < w4.heap.size := (by have := hb.size; (try simp at this); omega); have hsw43 : w3.heap.size < w4.heap.size := (by have := hb.size; (try simp at this); omega); clear _tk tk3) | (have _tk := tk4; go_at_call 18; refine (c_rebate _ _ _ _ _ _ _ H4.out).mono ?_; rintro e w5 ⟨rfl, hb⟩; obtain ⟨hc, hf⟩ := bcell hb; have hBw5 : Below w.heap.size w w5 := Below.trans (by go_grown) (hb.mono (by go_size)); have hzw5 := hBw5.size; have hsw50 : w.heap.size < w5.heap.size := (by have := hb.size; (try simp at this); omega); have hsw51 : w1.heap.size < w5.heap.size := (by have := hb.size; (try simp at this); omega); have hsw52 : w2.heap.size < w5.heap.size := (by have := hb.size; (try simp at this); omega); have hsw53 : w3.heap.size < w5.heap.size := (by have := hb.size; (try simp at this); omega); clear _tk tk4) | (go_at_call 17; refine (c_compare _ _ _ _ _ (by omega) (by omega) (by omega) (by omega) (by omega) (by omega) (by omega) (by omega)).mono ?_; rintro e w6 ⟨rfl, hb⟩; obtain ⟨hc, hf⟩ := bcell hb; have hBw6 : Below w.heap.size w w6 := Below.trans (by go_grown) (hb.mono (by go_size)); have hzw6 := hBw6.size; have hsw60 : w.heap.size < w6.heap.size := (by have := hb.size; (try simp at this); omega); have hsw61 : w2.heap.size < w6.heap.size := (by have := hb.size; (try simp at this); omega); have hsw62 : w3.heap.size < w6.heap.size := (by have := hb.size; (try simp at this); omega)))
    all_goals
      go_ret
      refine ⟨rfl, ?_⟩
      repeat' (first | (with_reducible exact Below.refl _ _) | (with_reducible assumption) | (with_reducible refine below_drewN ?_ _) | (with_reducible refine Below.drew ?_) | (with_reducible refine Below.alloc ?_ ?_ _) | (with_reducible refine Below.setCell ?_ ?_ _) | go_size)
  · unfold rebB at hR1; simp [hB1] at hR1
  · unfold rebB at hR1; simp [hB1] at hR1

set_option maxHeartbeats 6400000 in
theorem l_longer_10 (s m n d dr t lg base : Int) (w : World) (a1 : 0 ≤ m) (a2 : 0 ≤ dr) (a3 : 0 ≤ lg) (a4 : m ≤ 1099511627776) (a5 : dr ≤ 1048576) (a6 : lg ≤ 1048576)
    (a7 : 0 ≤ n) (a8 : n ≤ 1048576) (a9 : 0 ≤ s) (b1 : s ≤ 1099511627776) (b2 : 0 ≤ t) (b3 : t ≤ 1048576)
    (r1 r2 : Bool) (hB1 : intB s n d t base = true) (hB2 : intB (s + m) (n + dr) d (t + lg) base = false) (hR1 : rebB s n d t base = r1) (hR2 : rebB (s + m) (n + dr) d (t + lg) base = r2) :
    Calls Try.prog 4 #[.int .i64 s, .int .i64 m, .agg #[.int .i64 n, .int .i64 d], .int .i64 dr, .int .i64 t, .int .i64 lg, .int .i64 base] w fun e w' => e = .returned (.bool true) ∧ Below w.heap.size w w' := by
  cases r1 <;> cases r2
  · have tk1 : True := trivial
    have tk2 : True := trivial
    have tk3 : True := trivial
    have tk4 : True := trivial
    have H1 := Lib.hid hB1
    have H2 := Lib.hid hB2
    have H3 := Lib.hid hR1
    have H4 := Lib.hid hR2
    clear hB1 hB2 hR1 hR2
    go_enter Try.func4, Try.ntmps4
    go_wp2_with (first | (go_at_call 14; refine (c_awake39 _).mono ?_; rintro e w1 ⟨rfl, hb⟩; obtain ⟨hc, hf⟩ := bcell hb; have hBw1 : Below w.heap.size w w1 := Below.trans (by go_grown) (hb.mono (by go_size)); have hzw1 := hBw1.size; have hsw10 : w.heap.size < w1.heap.size := (by have := hb.size; (try simp at this); omega)) | (have _tk := tk1; go_at_call 16; refine (c_interest _ _ _ _ _ _ _ H1.out).mono ?_; rintro e w2 ⟨rfl, hb⟩; obtain ⟨hc, hf⟩ := bcell hb; have hBw2 : Below w.heap.size w w2 := Below.trans (by go_grown) (hb.mono (by go_size)); have hzw2 := hBw2.size; have hsw20 : w.heap.size < w2.heap.size := (by have := hb.size; (try simp at this); omega); have hsw21 : w1.heap.size < w2.heap.size := (by have := hb.size; (try simp at this); omega); clear _tk tk1) | (have _tk := tk2; go_at_call 16; refine (c_interest _ _ _ _ _ _ _ H2.out).mono ?_; rintro e w3 ⟨rfl, hb⟩; obtain ⟨hc, hf⟩ := bcell hb; have hBw3 : Below w.heap.size w w3 := Below.trans (by go_grown) (hb.mono (by go_size)); have hzw3 := hBw3.size; have hsw30 : w.heap.size < w3.heap.size := (by have := hb.size; (try simp at this); omega); have hsw31 : w1.heap.size < w3.heap.size := (by have := hb.size; (try simp at this); omega); have hsw32 : w2.heap.size < w3.heap.size := (by have := hb.size; (try simp at this); omega); clear _tk tk2) | (have _tk := tk3; go_at_call 18; refine (c_rebate _ _ _ _ _ _ _ H3.out).mono ?_; rintro e w4 ⟨rfl, hb⟩; obtain ⟨hc, hf⟩ := bcell hb; have hBw4 : Below w.heap.size w w4 := Below.trans (by go_grown) (hb.mono (by go_size)); have hzw4 := hBw4.size; have hsw40 : w.heap.size < w4.heap.size := (by have := hb.size; (try simp at this); omega); have hsw41 : w1.heap.size < w4.heap.size := (by have := hb.size; (try simp at this); omega); have hsw42 : w2.heap.size < w4.heap.size := (by have := hb.size; (try simp at this); omega); have hsw43 : w3.heap.size < w4.heap.size := (by have := hb.size; (try simp at this); omega); clear _tk tk3) | (have _tk := tk4; go_at_call 18; refine (c_rebate _ _ _ _ _ _ _ H4.out).mono ?_; rintro e w5 ⟨rfl, hb⟩; obtain ⟨hc, hf⟩ := bcell hb; have hBw5 : Below w.heap.size w w5 := Below.trans (by go_grown) (hb.mono (by go_size)); have hzw5 := hBw5.size; have hsw50 : w.heap.size < w5.heap.size := (by have := hb.size; (try simp at this); omega); have hsw51 : w1.heap.size < w5.heap.size := (by have := hb.size; (try simp at this); omega); have hsw52 : w2.heap.size < w5.heap.size := (by have := hb.size; (try simp at this); omega); have hsw53 : w3.heap.size < w5.heap.size := (by have := hb.size; (try simp at this); omega); clear _tk tk4) | (go_at_call 17; refine (c_compare _ _ _ _ _ (by omega) (by omega) (by omega) (by omega) (by omega) (by omega) (by omega) (by omega)).mono ?_; rintro e w6 ⟨rfl, hb⟩; obtain ⟨hc, hf⟩ := bcell hb; have hBw6 : Below w.heap.size w w6 := Below.trans (by go_grown) (hb.mono (by go_size)); have hzw6 := hBw6.size; have hsw60 : w.heap.size < w6.heap.size := (by have := hb.size; (try simp at this); omega); have hsw61 : w2.heap.size < w6.heap.size := (by have := hb.size; (try simp at this); omega); have hsw62 : w3.heap.size < w6.heap.size := (by have := hb.size; (try simp at this); omega)))
    all_goals
      go_ret
      refine ⟨rfl, ?_⟩
      repeat' (first | (with_reducible exact Below.refl _ _) | (with_reducible assumption) | (with_reducible refine below_drewN ?_ _) | (with_reducible refine Below.drew ?_) | (with_reducible refine Below.alloc ?_ ?_ _) | (with_reducible refine Below.setCell ?_ ?_ _) | go_size)
  · unfold rebB at hR2; simp [hB2] at hR2
  · have tk1 : True := trivial
    have tk2 : True := trivial
    have tk3 : True := trivial
    have tk4 : True := trivial
    have H1 := Lib.hid hB1
    have H2 := Lib.hid hB2
    have H3 := Lib.hid hR1
    have H4 := Lib.hid hR2
    clear hB1 hB2 hR1 hR2
    go_enter Try.func4, Try.ntmps4
    go_wp2_with (first | (go_at_call 14; refine (c_awake39 _).mono ?_; rintro e w1 ⟨rfl, hb⟩; obtain ⟨hc, hf⟩ := bcell hb; have hBw1 : Below w.heap.size w w1 := Below.trans (by go_grown) (hb.mono (by go_size)); have hzw1 := hBw1.size; have hsw10 : w.heap.size < w1.heap.size := (by have := hb.size; (try simp at this); omega)) | (have _tk := tk1; go_at_call 16; refine (c_interest _ _ _ _ _ _ _ H1.out).mono ?_; rintro e w2 ⟨rfl, hb⟩; obtain ⟨hc, hf⟩ := bcell hb; have hBw2 : Below w.heap.size w w2 := Below.trans (by go_grown) (hb.mono (by go_size)); have hzw2 := hBw2.size; have hsw20 : w.heap.size < w2.heap.size := (by have := hb.size; (try simp at this); omega); have hsw21 : w1.heap.size < w2.heap.size := (by have := hb.size; (try simp at this); omega); clear _tk tk1) | (have _tk := tk2; go_at_call 16; refine (c_interest _ _ _ _ _ _ _ H2.out).mono ?_; rintro e w3 ⟨rfl, hb⟩; obtain ⟨hc, hf⟩ := bcell hb; have hBw3 : Below w.heap.size w w3 := Below.trans (by go_grown) (hb.mono (by go_size)); have hzw3 := hBw3.size; have hsw30 : w.heap.size < w3.heap.size := (by have := hb.size; (try simp at this); omega); have hsw31 : w1.heap.size < w3.heap.size := (by have := hb.size; (try simp at this); omega); have hsw32 : w2.heap.size < w3.heap.size := (by have := hb.size; (try simp at this); omega); clear _tk tk2) | (have _tk := tk3; go_at_call 18; refine (c_rebate _ _ _ _ _ _ _ H3.out).mono ?_; rintro e w4 ⟨rfl, hb⟩; obtain ⟨hc, hf⟩ := bcell hb; have hBw4 : Below w.heap.size w w4 := Below.trans (by go_grown) (hb.mono (by go_size)); have hzw4 := hBw4.size; have hsw40 : w.heap.size < w4.heap.size := (by have := hb.size; (try simp at this); omega); have hsw41 : w1.heap.size < w4.heap.size := (by have := hb.size; (try simp at this); omega); have hsw42 : w2.heap.size < w4.heap.size := (by have := hb.size; (try simp at this); omega); have hsw43 : w3.heap.size < w4.heap.size := (by have := hb.size; (try simp at this); omega); clear _tk tk3) | (have _tk := tk4; go_at_call 18; refine (c_rebate _ _ _ _ _ _ _ H4.out).mono ?_; rintro e w5 ⟨rfl, hb⟩; obtain ⟨hc, hf⟩ := bcell hb; have hBw5 : Below w.heap.size w w5 := Below.trans (by go_grown) (hb.mono (by go_size)); have hzw5 := hBw5.size; have hsw50 : w.heap.size < w5.heap.size := (by have := hb.size; (try simp at this); omega); have hsw51 : w1.heap.size < w5.heap.size := (by have := hb.size; (try simp at this); omega); have hsw52 : w2.heap.size < w5.heap.size := (by have := hb.size; (try simp at this); omega); have hsw53 : w3.heap.size < w5.heap.size := (by have := hb.size; (try simp at this); omega); clear _tk tk4) | (go_at_call 17; refine (c_compare _ _ _ _ _ (by omega) (by omega) (by omega) (by omega) (by omega) (by omega) (by omega) (by omega)).mono ?_; rintro e w6 ⟨rfl, hb⟩; obtain ⟨hc, hf⟩ := bcell hb; have hBw6 : Below w.heap.size w w6 := Below.trans (by go_grown) (hb.mono (by go_size)); have hzw6 := hBw6.size; have hsw60 : w.heap.size < w6.heap.size := (by have := hb.size; (try simp at this); omega); have hsw61 : w2.heap.size < w6.heap.size := (by have := hb.size; (try simp at this); omega); have hsw62 : w3.heap.size < w6.heap.size := (by have := hb.size; (try simp at this); omega)))
    all_goals
      go_ret
      refine ⟨rfl, ?_⟩
      repeat' (first | (with_reducible exact Below.refl _ _) | (with_reducible assumption) | (with_reducible refine below_drewN ?_ _) | (with_reducible refine Below.drew ?_) | (with_reducible refine Below.alloc ?_ ?_ _) | (with_reducible refine Below.setCell ?_ ?_ _) | go_size)
  · unfold rebB at hR2; simp [hB2] at hR2

set_option maxHeartbeats 6400000 in
theorem l_longer_11 (s m n d dr t lg base : Int) (w : World) (a1 : 0 ≤ m) (a2 : 0 ≤ dr) (a3 : 0 ≤ lg) (a4 : m ≤ 1099511627776) (a5 : dr ≤ 1048576) (a6 : lg ≤ 1048576)
    (a7 : 0 ≤ n) (a8 : n ≤ 1048576) (a9 : 0 ≤ s) (b1 : s ≤ 1099511627776) (b2 : 0 ≤ t) (b3 : t ≤ 1048576)
    (r1 r2 : Bool) (hB1 : intB s n d t base = true) (hB2 : intB (s + m) (n + dr) d (t + lg) base = true) (hR1 : rebB s n d t base = r1) (hR2 : rebB (s + m) (n + dr) d (t + lg) base = r2) :
    Calls Try.prog 4 #[.int .i64 s, .int .i64 m, .agg #[.int .i64 n, .int .i64 d], .int .i64 dr, .int .i64 t, .int .i64 lg, .int .i64 base] w fun e w' => e = .returned (.bool true) ∧ Below w.heap.size w w' := by
  cases r1 <;> cases r2
  · have tk1 : True := trivial
    have tk2 : True := trivial
    have tk3 : True := trivial
    have tk4 : True := trivial
    obtain ⟨_, _, f1, f2, f3, f4⟩ := int_facts hB1
    obtain ⟨_, _, g1, g2, g3, g4⟩ := int_facts hB2
    obtain ⟨k1, k2⟩ := longer_sgn hB1 hB2 (by omega) (by omega) (by omega)
    have H1 := Lib.hid hB1
    have H2 := Lib.hid hB2
    have H3 := Lib.hid hR1
    have H4 := Lib.hid hR2
    clear hB1 hB2 hR1 hR2
    go_enter Try.func4, Try.ntmps4
    go_wp2_with (first | (go_at_call 14; refine (c_awake39 _).mono ?_; rintro e w1 ⟨rfl, hb⟩; obtain ⟨hc, hf⟩ := bcell hb; have hBw1 : Below w.heap.size w w1 := Below.trans (by go_grown) (hb.mono (by go_size)); have hzw1 := hBw1.size; have hsw10 : w.heap.size < w1.heap.size := (by have := hb.size; (try simp at this); omega)) | (have _tk := tk1; go_at_call 16; refine (c_interest _ _ _ _ _ _ _ H1.out).mono ?_; rintro e w2 ⟨rfl, hb⟩; obtain ⟨hc, hf⟩ := bcell hb; have hBw2 : Below w.heap.size w w2 := Below.trans (by go_grown) (hb.mono (by go_size)); have hzw2 := hBw2.size; have hsw20 : w.heap.size < w2.heap.size := (by have := hb.size; (try simp at this); omega); have hsw21 : w1.heap.size < w2.heap.size := (by have := hb.size; (try simp at this); omega); clear _tk tk1) | (have _tk := tk2; go_at_call 16; refine (c_interest _ _ _ _ _ _ _ H2.out).mono ?_; rintro e w3 ⟨rfl, hb⟩; obtain ⟨hc, hf⟩ := bcell hb; have hBw3 : Below w.heap.size w w3 := Below.trans (by go_grown) (hb.mono (by go_size)); have hzw3 := hBw3.size; have hsw30 : w.heap.size < w3.heap.size := (by have := hb.size; (try simp at this); omega); have hsw31 : w1.heap.size < w3.heap.size := (by have := hb.size; (try simp at this); omega); have hsw32 : w2.heap.size < w3.heap.size := (by have := hb.size; (try simp at this); omega); clear _tk tk2) | (have _tk := tk3; go_at_call 18; refine (c_rebate _ _ _ _ _ _ _ H3.out).mono ?_; rintro e w4 ⟨rfl, hb⟩; obtain ⟨hc, hf⟩ := bcell hb; have hBw4 : Below w.heap.size w w4 := Below.trans (by go_grown) (hb.mono (by go_size)); have hzw4 := hBw4.size; have hsw40 : w.heap.size < w4.heap.size := (by have := hb.size; (try simp at this); omega); have hsw41 : w1.heap.size < w4.heap.size := (by have := hb.size; (try simp at this); omega); have hsw42 : w2.heap.size < w4.heap.size := (by have := hb.size; (try simp at this); omega); have hsw43 : w3.heap.size < w4.heap.size := (by have := hb.size; (try simp at this); omega); clear _tk tk3) | (have _tk := tk4; go_at_call 18; refine (c_rebate _ _ _ _ _ _ _ H4.out).mono ?_; rintro e w5 ⟨rfl, hb⟩; obtain ⟨hc, hf⟩ := bcell hb; have hBw5 : Below w.heap.size w w5 := Below.trans (by go_grown) (hb.mono (by go_size)); have hzw5 := hBw5.size; have hsw50 : w.heap.size < w5.heap.size := (by have := hb.size; (try simp at this); omega); have hsw51 : w1.heap.size < w5.heap.size := (by have := hb.size; (try simp at this); omega); have hsw52 : w2.heap.size < w5.heap.size := (by have := hb.size; (try simp at this); omega); have hsw53 : w3.heap.size < w5.heap.size := (by have := hb.size; (try simp at this); omega); clear _tk tk4) | (go_at_call 17; refine (c_compare _ _ _ _ _ (by omega) (by omega) (by omega) (by omega) (by omega) (by omega) (by omega) (by omega)).mono ?_; rintro e w6 ⟨rfl, hb⟩; obtain ⟨hc, hf⟩ := bcell hb; have hBw6 : Below w.heap.size w w6 := Below.trans (by go_grown) (hb.mono (by go_size)); have hzw6 := hBw6.size; have hsw60 : w.heap.size < w6.heap.size := (by have := hb.size; (try simp at this); omega); have hsw61 : w2.heap.size < w6.heap.size := (by have := hb.size; (try simp at this); omega); have hsw62 : w3.heap.size < w6.heap.size := (by have := hb.size; (try simp at this); omega)))
    all_goals
      go_ret
      refine ⟨rfl, ?_⟩
      repeat' (first | (with_reducible exact Below.refl _ _) | (with_reducible assumption) | (with_reducible refine below_drewN ?_ _) | (with_reducible refine Below.drew ?_) | (with_reducible refine Below.alloc ?_ ?_ _) | (with_reducible refine Below.setCell ?_ ?_ _) | go_size)
  · have tk1 : True := trivial
    have tk2 : True := trivial
    have tk3 : True := trivial
    have tk4 : True := trivial
    obtain ⟨_, _, f1, f2, f3, f4⟩ := int_facts hB1
    obtain ⟨_, _, g1, g2, g3, g4⟩ := int_facts hB2
    obtain ⟨k1, k2⟩ := longer_sgn hB1 hB2 (by omega) (by omega) (by omega)
    have H1 := Lib.hid hB1
    have H2 := Lib.hid hB2
    have H3 := Lib.hid hR1
    have H4 := Lib.hid hR2
    clear hB1 hB2 hR1 hR2
    go_enter Try.func4, Try.ntmps4
    go_wp2_with (first | (go_at_call 14; refine (c_awake39 _).mono ?_; rintro e w1 ⟨rfl, hb⟩; obtain ⟨hc, hf⟩ := bcell hb; have hBw1 : Below w.heap.size w w1 := Below.trans (by go_grown) (hb.mono (by go_size)); have hzw1 := hBw1.size; have hsw10 : w.heap.size < w1.heap.size := (by have := hb.size; (try simp at this); omega)) | (have _tk := tk1; go_at_call 16; refine (c_interest _ _ _ _ _ _ _ H1.out).mono ?_; rintro e w2 ⟨rfl, hb⟩; obtain ⟨hc, hf⟩ := bcell hb; have hBw2 : Below w.heap.size w w2 := Below.trans (by go_grown) (hb.mono (by go_size)); have hzw2 := hBw2.size; have hsw20 : w.heap.size < w2.heap.size := (by have := hb.size; (try simp at this); omega); have hsw21 : w1.heap.size < w2.heap.size := (by have := hb.size; (try simp at this); omega); clear _tk tk1) | (have _tk := tk2; go_at_call 16; refine (c_interest _ _ _ _ _ _ _ H2.out).mono ?_; rintro e w3 ⟨rfl, hb⟩; obtain ⟨hc, hf⟩ := bcell hb; have hBw3 : Below w.heap.size w w3 := Below.trans (by go_grown) (hb.mono (by go_size)); have hzw3 := hBw3.size; have hsw30 : w.heap.size < w3.heap.size := (by have := hb.size; (try simp at this); omega); have hsw31 : w1.heap.size < w3.heap.size := (by have := hb.size; (try simp at this); omega); have hsw32 : w2.heap.size < w3.heap.size := (by have := hb.size; (try simp at this); omega); clear _tk tk2) | (have _tk := tk3; go_at_call 18; refine (c_rebate _ _ _ _ _ _ _ H3.out).mono ?_; rintro e w4 ⟨rfl, hb⟩; obtain ⟨hc, hf⟩ := bcell hb; have hBw4 : Below w.heap.size w w4 := Below.trans (by go_grown) (hb.mono (by go_size)); have hzw4 := hBw4.size; have hsw40 : w.heap.size < w4.heap.size := (by have := hb.size; (try simp at this); omega); have hsw41 : w1.heap.size < w4.heap.size := (by have := hb.size; (try simp at this); omega); have hsw42 : w2.heap.size < w4.heap.size := (by have := hb.size; (try simp at this); omega); have hsw43 : w3.heap.size < w4.heap.size := (by have := hb.size; (try simp at this); omega); clear _tk tk3) | (have _tk := tk4; go_at_call 18; refine (c_rebate _ _ _ _ _ _ _ H4.out).mono ?_; rintro e w5 ⟨rfl, hb⟩; obtain ⟨hc, hf⟩ := bcell hb; have hBw5 : Below w.heap.size w w5 := Below.trans (by go_grown) (hb.mono (by go_size)); have hzw5 := hBw5.size; have hsw50 : w.heap.size < w5.heap.size := (by have := hb.size; (try simp at this); omega); have hsw51 : w1.heap.size < w5.heap.size := (by have := hb.size; (try simp at this); omega); have hsw52 : w2.heap.size < w5.heap.size := (by have := hb.size; (try simp at this); omega); have hsw53 : w3.heap.size < w5.heap.size := (by have := hb.size; (try simp at this); omega); clear _tk tk4) | (go_at_call 17; refine (c_compare _ _ _ _ _ (by omega) (by omega) (by omega) (by omega) (by omega) (by omega) (by omega) (by omega)).mono ?_; rintro e w6 ⟨rfl, hb⟩; obtain ⟨hc, hf⟩ := bcell hb; have hBw6 : Below w.heap.size w w6 := Below.trans (by go_grown) (hb.mono (by go_size)); have hzw6 := hBw6.size; have hsw60 : w.heap.size < w6.heap.size := (by have := hb.size; (try simp at this); omega); have hsw61 : w2.heap.size < w6.heap.size := (by have := hb.size; (try simp at this); omega); have hsw62 : w3.heap.size < w6.heap.size := (by have := hb.size; (try simp at this); omega)))
    all_goals
      go_ret
      refine ⟨rfl, ?_⟩
      repeat' (first | (with_reducible exact Below.refl _ _) | (with_reducible assumption) | (with_reducible refine below_drewN ?_ _) | (with_reducible refine Below.drew ?_) | (with_reducible refine Below.alloc ?_ ?_ _) | (with_reducible refine Below.setCell ?_ ?_ _) | go_size)
  · have tk1 : True := trivial
    have tk2 : True := trivial
    have tk3 : True := trivial
    have tk4 : True := trivial
    obtain ⟨_, _, f1, f2, f3, f4⟩ := int_facts hB1
    obtain ⟨_, _, g1, g2, g3, g4⟩ := int_facts hB2
    obtain ⟨k1, k2⟩ := longer_sgn hB1 hB2 (by omega) (by omega) (by omega)
    have H1 := Lib.hid hB1
    have H2 := Lib.hid hB2
    have H3 := Lib.hid hR1
    have H4 := Lib.hid hR2
    clear hB1 hB2 hR1 hR2
    go_enter Try.func4, Try.ntmps4
    go_wp2_with (first | (go_at_call 14; refine (c_awake39 _).mono ?_; rintro e w1 ⟨rfl, hb⟩; obtain ⟨hc, hf⟩ := bcell hb; have hBw1 : Below w.heap.size w w1 := Below.trans (by go_grown) (hb.mono (by go_size)); have hzw1 := hBw1.size; have hsw10 : w.heap.size < w1.heap.size := (by have := hb.size; (try simp at this); omega)) | (have _tk := tk1; go_at_call 16; refine (c_interest _ _ _ _ _ _ _ H1.out).mono ?_; rintro e w2 ⟨rfl, hb⟩; obtain ⟨hc, hf⟩ := bcell hb; have hBw2 : Below w.heap.size w w2 := Below.trans (by go_grown) (hb.mono (by go_size)); have hzw2 := hBw2.size; have hsw20 : w.heap.size < w2.heap.size := (by have := hb.size; (try simp at this); omega); have hsw21 : w1.heap.size < w2.heap.size := (by have := hb.size; (try simp at this); omega); clear _tk tk1) | (have _tk := tk2; go_at_call 16; refine (c_interest _ _ _ _ _ _ _ H2.out).mono ?_; rintro e w3 ⟨rfl, hb⟩; obtain ⟨hc, hf⟩ := bcell hb; have hBw3 : Below w.heap.size w w3 := Below.trans (by go_grown) (hb.mono (by go_size)); have hzw3 := hBw3.size; have hsw30 : w.heap.size < w3.heap.size := (by have := hb.size; (try simp at this); omega); have hsw31 : w1.heap.size < w3.heap.size := (by have := hb.size; (try simp at this); omega); have hsw32 : w2.heap.size < w3.heap.size := (by have := hb.size; (try simp at this); omega); clear _tk tk2) | (have _tk := tk3; go_at_call 18; refine (c_rebate _ _ _ _ _ _ _ H3.out).mono ?_; rintro e w4 ⟨rfl, hb⟩; obtain ⟨hc, hf⟩ := bcell hb; have hBw4 : Below w.heap.size w w4 := Below.trans (by go_grown) (hb.mono (by go_size)); have hzw4 := hBw4.size; have hsw40 : w.heap.size < w4.heap.size := (by have := hb.size; (try simp at this); omega); have hsw41 : w1.heap.size < w4.heap.size := (by have := hb.size; (try simp at this); omega); have hsw42 : w2.heap.size < w4.heap.size := (by have := hb.size; (try simp at this); omega); have hsw43 : w3.heap.size < w4.heap.size := (by have := hb.size; (try simp at this); omega); clear _tk tk3) | (have _tk := tk4; go_at_call 18; refine (c_rebate _ _ _ _ _ _ _ H4.out).mono ?_; rintro e w5 ⟨rfl, hb⟩; obtain ⟨hc, hf⟩ := bcell hb; have hBw5 : Below w.heap.size w w5 := Below.trans (by go_grown) (hb.mono (by go_size)); have hzw5 := hBw5.size; have hsw50 : w.heap.size < w5.heap.size := (by have := hb.size; (try simp at this); omega); have hsw51 : w1.heap.size < w5.heap.size := (by have := hb.size; (try simp at this); omega); have hsw52 : w2.heap.size < w5.heap.size := (by have := hb.size; (try simp at this); omega); have hsw53 : w3.heap.size < w5.heap.size := (by have := hb.size; (try simp at this); omega); clear _tk tk4) | (go_at_call 17; refine (c_compare _ _ _ _ _ (by omega) (by omega) (by omega) (by omega) (by omega) (by omega) (by omega) (by omega)).mono ?_; rintro e w6 ⟨rfl, hb⟩; obtain ⟨hc, hf⟩ := bcell hb; have hBw6 : Below w.heap.size w w6 := Below.trans (by go_grown) (hb.mono (by go_size)); have hzw6 := hBw6.size; have hsw60 : w.heap.size < w6.heap.size := (by have := hb.size; (try simp at this); omega); have hsw61 : w2.heap.size < w6.heap.size := (by have := hb.size; (try simp at this); omega); have hsw62 : w3.heap.size < w6.heap.size := (by have := hb.size; (try simp at this); omega)))
    all_goals
      go_ret
      refine ⟨rfl, ?_⟩
      repeat' (first | (with_reducible exact Below.refl _ _) | (with_reducible assumption) | (with_reducible refine below_drewN ?_ _) | (with_reducible refine Below.drew ?_) | (with_reducible refine Below.alloc ?_ ?_ _) | (with_reducible refine Below.setCell ?_ ?_ _) | go_size)
  · have tk1 : True := trivial
    have tk2 : True := trivial
    have tk3 : True := trivial
    have tk4 : True := trivial
    obtain ⟨_, _, f1, f2, f3, f4⟩ := int_facts hB1
    obtain ⟨_, _, g1, g2, g3, g4⟩ := int_facts hB2
    obtain ⟨k1, k2⟩ := longer_sgn hB1 hB2 (by omega) (by omega) (by omega)
    have H1 := Lib.hid hB1
    have H2 := Lib.hid hB2
    have H3 := Lib.hid hR1
    have H4 := Lib.hid hR2
    clear hB1 hB2 hR1 hR2
    go_enter Try.func4, Try.ntmps4
    go_wp2_with (first | (go_at_call 14; refine (c_awake39 _).mono ?_; rintro e w1 ⟨rfl, hb⟩; obtain ⟨hc, hf⟩ := bcell hb; have hBw1 : Below w.heap.size w w1 := Below.trans (by go_grown) (hb.mono (by go_size)); have hzw1 := hBw1.size; have hsw10 : w.heap.size < w1.heap.size := (by have := hb.size; (try simp at this); omega)) | (have _tk := tk1; go_at_call 16; refine (c_interest _ _ _ _ _ _ _ H1.out).mono ?_; rintro e w2 ⟨rfl, hb⟩; obtain ⟨hc, hf⟩ := bcell hb; have hBw2 : Below w.heap.size w w2 := Below.trans (by go_grown) (hb.mono (by go_size)); have hzw2 := hBw2.size; have hsw20 : w.heap.size < w2.heap.size := (by have := hb.size; (try simp at this); omega); have hsw21 : w1.heap.size < w2.heap.size := (by have := hb.size; (try simp at this); omega); clear _tk tk1) | (have _tk := tk2; go_at_call 16; refine (c_interest _ _ _ _ _ _ _ H2.out).mono ?_; rintro e w3 ⟨rfl, hb⟩; obtain ⟨hc, hf⟩ := bcell hb; have hBw3 : Below w.heap.size w w3 := Below.trans (by go_grown) (hb.mono (by go_size)); have hzw3 := hBw3.size; have hsw30 : w.heap.size < w3.heap.size := (by have := hb.size; (try simp at this); omega); have hsw31 : w1.heap.size < w3.heap.size := (by have := hb.size; (try simp at this); omega); have hsw32 : w2.heap.size < w3.heap.size := (by have := hb.size; (try simp at this); omega); clear _tk tk2) | (have _tk := tk3; go_at_call 18; refine (c_rebate _ _ _ _ _ _ _ H3.out).mono ?_; rintro e w4 ⟨rfl, hb⟩; obtain ⟨hc, hf⟩ := bcell hb; have hBw4 : Below w.heap.size w w4 := Below.trans (by go_grown) (hb.mono (by go_size)); have hzw4 := hBw4.size; have hsw40 : w.heap.size < w4.heap.size := (by have := hb.size; (try simp at this); omega); have hsw41 : w1.heap.size < w4.heap.size := (by have := hb.size; (try simp at this); omega); have hsw42 : w2.heap.size < w4.heap.size := (by have := hb.size; (try simp at this); omega); have hsw43 : w3.heap.size < w4.heap.size := (by have := hb.size; (try simp at this); omega); clear _tk tk3) | (have _tk := tk4; go_at_call 18; refine (c_rebate _ _ _ _ _ _ _ H4.out).mono ?_; rintro e w5 ⟨rfl, hb⟩; obtain ⟨hc, hf⟩ := bcell hb; have hBw5 : Below w.heap.size w w5 := Below.trans (by go_grown) (hb.mono (by go_size)); have hzw5 := hBw5.size; have hsw50 : w.heap.size < w5.heap.size := (by have := hb.size; (try simp at this); omega); have hsw51 : w1.heap.size < w5.heap.size := (by have := hb.size; (try simp at this); omega); have hsw52 : w2.heap.size < w5.heap.size := (by have := hb.size; (try simp at this); omega); have hsw53 : w3.heap.size < w5.heap.size := (by have := hb.size; (try simp at this); omega); clear _tk tk4) | (go_at_call 17; refine (c_compare _ _ _ _ _ (by omega) (by omega) (by omega) (by omega) (by omega) (by omega) (by omega) (by omega)).mono ?_; rintro e w6 ⟨rfl, hb⟩; obtain ⟨hc, hf⟩ := bcell hb; have hBw6 : Below w.heap.size w w6 := Below.trans (by go_grown) (hb.mono (by go_size)); have hzw6 := hBw6.size; have hsw60 : w.heap.size < w6.heap.size := (by have := hb.size; (try simp at this); omega); have hsw61 : w2.heap.size < w6.heap.size := (by have := hb.size; (try simp at this); omega); have hsw62 : w3.heap.size < w6.heap.size := (by have := hb.size; (try simp at this); omega)))
    all_goals
      go_ret
      refine ⟨rfl, ?_⟩
      repeat' (first | (with_reducible exact Below.refl _ _) | (with_reducible assumption) | (with_reducible refine below_drewN ?_ _) | (with_reducible refine Below.drew ?_) | (with_reducible refine Below.alloc ?_ ?_ _) | (with_reducible refine Below.setCell ?_ ?_ _) | go_size)

end Go.Proofs.Ytagdibogjlmgmaa
