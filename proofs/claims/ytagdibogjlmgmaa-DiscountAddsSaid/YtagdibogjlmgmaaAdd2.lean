/-
  share.Add of two fractions that may be.
-/
import Derived.Test.YtagdibogjlmgmaaAdd
namespace Go.Proofs.Ytagdibogjlmgmaa
set_option linter.unusedVariables false
set_option linter.unusedSimpArgs false
open Go.RowKit

theorem quiet_left0 {P : Program} {f : FuncId} {args : Array Value} {w : World} {n : Nat} {v : Value}
    (h : Calls P f args (w.drewN n) fun e w' => e = .returned v ∧ w.drewN n = w') : Calls P f args (w.drewN n) fun e w'' => e = .returned v ∧ ∃ m, w'' = w.drewN m :=
  h.mono fun _ _ ⟨he, hm⟩ => ⟨he, n, hm.symm⟩
theorem quiet_left1 {P : Program} {f : FuncId} {args : Array Value} {w : World} {a n : Nat} {v : Value}
    (h : Calls P f args (w.drewN (a + n)) fun e w' => e = .returned v ∧ w.drewN (a + n) = w') :
    Calls P f args (w.drewN (a + n)) fun e w'' => e = .returned v ∧ ∃ m, w'' = w.drewN (a + m) :=
  h.mono fun _ _ ⟨he, hm⟩ => ⟨he, n, hm.symm⟩

set_option maxHeartbeats 3200000 in
set_option maxRecDepth 100000 in
theorem c_add_ok (an ad bn bd n1 d1 n2 d2 g e1 e2 x1 x0 y1 y0 S0 c S1 rr k f2 t1 t0 num : Int) (w : World)
    (hka : ∀ w, Calls Try.prog 43 #[.agg #[.int .i64 an, .int .i64 ad]] w fun e w' => e = .returned (.bool true) ∧ Below w.heap.size w w')
    (hkb : ∀ w, Calls Try.prog 43 #[.agg #[.int .i64 bn, .int .i64 bd]] w fun e w' => e = .returned (.bool true) ∧ Below w.heap.size w w')
    (hl1 : ∀ w, Calls Try.prog 44 #[.agg #[.int .i64 an, .int .i64 ad]] w fun e w' => e = .returned (.tuple #[.int .u64 n1, .int .u64 d1]) ∧ Below w.heap.size w w')
    (hl2 : ∀ w, Calls Try.prog 44 #[.agg #[.int .i64 bn, .int .i64 bd]] w fun e w' => e = .returned (.tuple #[.int .u64 n2, .int .u64 d2]) ∧ Below w.heap.size w w')
    (p1 : 0 ≤ n1) (p2 : n1 ≤ 9223372036854775807) (p3 : 1 ≤ d1) (p4 : d1 ≤ 9223372036854775807) (p5 : 0 ≤ n2) (p6 : n2 ≤ 9223372036854775807) (p7 : 1 ≤ d2) (p8 : d2 ≤ 9223372036854775807)
    (q1 : G d1 d2 = g) (q2 : d1 / g = e1) (q3 : d2 / g = e2) (q4 : n1 * e2 / 18446744073709551616 = x1) (q5 : n1 * e2 % 18446744073709551616 = x0) (q6 : n2 * e1 / 18446744073709551616 = y1) (q7 : n2 * e1 % 18446744073709551616 = y0)
    (q8 : (x0 + y0) % 18446744073709551616 = S0) (q9 : (x0 + y0) / 18446744073709551616 = c) (q10 : (x1 + y1 + c) % 18446744073709551616 = S1) (q11 : (S1 % g * 18446744073709551616 + S0) % g = rr) (q12 : G rr g = k) (q13 : d2 / k = f2) (q14 : e1 * f2 / 18446744073709551616 = t1) (q15 : e1 * f2 % 18446744073709551616 = t0) (q16 : (S1 * 18446744073709551616 + S0) / k = num)
    (r1 : 1 ≤ g) (r2 : g ≤ 9223372036854775807) (r3 : 1 ≤ e1) (r4 : e1 ≤ 9223372036854775807) (r5 : 1 ≤ e2) (r6 : e2 ≤ 9223372036854775807) (r7 : 1 ≤ k) (r8 : k ≤ 9223372036854775807) (r9 : 1 ≤ f2) (r10 : f2 ≤ 9223372036854775807) (r11 : 0 ≤ rr) (r12 : 0 ≤ t0) (r13 : 0 ≤ num) (r14 : t0 < 18446744073709551616) (r15 : 0 ≤ t1)
    (b1 : 0 ≤ x1) (b2 : x1 < 18446744073709551616) (b3 : 0 ≤ x0) (b4 : x0 < 18446744073709551616) (b5 : 0 ≤ y1) (b6 : y1 < 18446744073709551616) (b7 : 0 ≤ y0) (b8 : y0 < 18446744073709551616) (b9 : 0 ≤ S0) (b10 : S0 < 18446744073709551616) (b11 : 0 ≤ c) (b12 : c ≤ 1) (b13 : 0 ≤ S1) (b14 : S1 < 18446744073709551616)
    (z1 : S1 < k) (z2 : t1 ≤ 0) (z3 : t0 ≤ 9223372036854775807) (z4 : num ≤ 9223372036854775807) :
    Calls Try.prog 21 #[.agg #[.int .i64 an, .int .i64 ad], .agg #[.int .i64 bn, .int .i64 bd]] w fun e w' => e = .returned (.tuple #[.agg #[.int .i64 num, .int .i64 t0], .bool true]) ∧ Below w.heap.size w w' := by
  have tk1 : True := trivial
  have tk2 : True := trivial
  have HKa := Lib.hid hka
  have HKb := Lib.hid hkb
  have HL1 := Lib.hid hl1
  have HL2 := Lib.hid hl2
  clear hka hkb hl1 hl2
  have m1 := Int.emod_nonneg S1 (show g ≠ 0 by omega)
  have m2 := Int.emod_lt_of_pos S1 (show 0 < g by omega)
  go_enter Try.func21, Try.ntmps21
  go_wp2_with (first | (have _tk := tk1; go_at_call 43; refine (HKa.out _).mono ?_; rintro e w1 ⟨rfl, hb⟩; obtain ⟨hc, hf⟩ := bcell hb; have hBw1 : Below w.heap.size w w1 := Below.trans (by go_grown) (hb.mono (by go_size)); have hzw1 := hBw1.size; have hsw10 : w.heap.size < w1.heap.size := (by have := hb.size; (try simp at this); omega); have hsw11 : w.heap.size + 1 < w1.heap.size := (by have := hb.size; (try simp at this); omega); have hsw12 : w.heap.size + 2 < w1.heap.size := (by have := hb.size; (try simp at this); omega); clear _tk tk1) | (go_at_call 43; refine (HKb.out _).mono ?_; rintro e w2 ⟨rfl, hb⟩; obtain ⟨hc, hf⟩ := bcell hb; have hBw2 : Below w.heap.size w w2 := Below.trans (by go_grown) (hb.mono (by go_size)); have hzw2 := hBw2.size; have hsw20 : w.heap.size < w2.heap.size := (by have := hb.size; (try simp at this); omega); have hsw21 : w.heap.size + 1 < w2.heap.size := (by have := hb.size; (try simp at this); omega); have hsw22 : w.heap.size + 2 < w2.heap.size := (by have := hb.size; (try simp at this); omega)) | (have _tk := tk2; go_at_call 44; refine (HL1.out _).mono ?_; rintro e w3 ⟨rfl, hb⟩; obtain ⟨hc, hf⟩ := bcell hb; have hBw3 : Below w.heap.size w w3 := Below.trans (by go_grown) (hb.mono (by go_size)); have hzw3 := hBw3.size; have hsw30 : w.heap.size < w3.heap.size := (by have := hb.size; (try simp at this); omega); have hsw31 : w.heap.size + 1 < w3.heap.size := (by have := hb.size; (try simp at this); omega); have hsw32 : w.heap.size + 2 < w3.heap.size := (by have := hb.size; (try simp at this); omega); clear _tk tk2) | (go_at_call 44; refine (HL2.out _).mono ?_; rintro e w4 ⟨rfl, hb⟩; obtain ⟨hc, hf⟩ := bcell hb; have hBw4 : Below w.heap.size w w4 := Below.trans (by go_grown) (hb.mono (by go_size)); have hzw4 := hBw4.size; have hsw40 : w.heap.size < w4.heap.size := (by have := hb.size; (try simp at this); omega); have hsw41 : w.heap.size + 1 < w4.heap.size := (by have := hb.size; (try simp at this); omega); have hsw42 : w.heap.size + 2 < w4.heap.size := (by have := hb.size; (try simp at this); omega)) | (go_at_call 45; refine (c_divU _ _ _ (by omega) (by omega)).mono ?_; rintro e w' ⟨rfl, kk, rfl⟩) | (go_at_call 39; refine (c_mul64 _ _ _ (by omega) (by omega) (by omega) (by omega)).mono ?_; rintro e w' ⟨rfl, rfl⟩) | (go_at_call 47; refine (c_div64 _ _ _ _ (by omega) (by omega) (by omega) (by omega) (by omega)).mono ?_; rintro e w' ⟨rfl, kk, rfl⟩) | simp only [add64_0 x0 y0 b3 b4 b7 b8] | simp only [add64 x1 y1 c b1 b2 b5 b6 b11 b12])
  go_quiet (first | (go_at_call 39; exact quiet_left1 (c_mul64 _ _ _ (by omega) (by omega) (by omega) (by omega))) | (go_at_call 39; exact quiet_left0 (c_mul64 _ _ _ (by omega) (by omega) (by omega) (by omega))))
  go_wp2_with (first | (have _tk := tk1; go_at_call 43; refine (HKa.out _).mono ?_; rintro e w1 ⟨rfl, hb⟩; obtain ⟨hc, hf⟩ := bcell hb; have hBw1 : Below w.heap.size w w1 := Below.trans (by go_grown) (hb.mono (by go_size)); have hzw1 := hBw1.size; have hsw10 : w.heap.size < w1.heap.size := (by have := hb.size; (try simp at this); omega); have hsw11 : w.heap.size + 1 < w1.heap.size := (by have := hb.size; (try simp at this); omega); have hsw12 : w.heap.size + 2 < w1.heap.size := (by have := hb.size; (try simp at this); omega); clear _tk tk1) | (go_at_call 43; refine (HKb.out _).mono ?_; rintro e w2 ⟨rfl, hb⟩; obtain ⟨hc, hf⟩ := bcell hb; have hBw2 : Below w.heap.size w w2 := Below.trans (by go_grown) (hb.mono (by go_size)); have hzw2 := hBw2.size; have hsw20 : w.heap.size < w2.heap.size := (by have := hb.size; (try simp at this); omega); have hsw21 : w.heap.size + 1 < w2.heap.size := (by have := hb.size; (try simp at this); omega); have hsw22 : w.heap.size + 2 < w2.heap.size := (by have := hb.size; (try simp at this); omega)) | (have _tk := tk2; go_at_call 44; refine (HL1.out _).mono ?_; rintro e w3 ⟨rfl, hb⟩; obtain ⟨hc, hf⟩ := bcell hb; have hBw3 : Below w.heap.size w w3 := Below.trans (by go_grown) (hb.mono (by go_size)); have hzw3 := hBw3.size; have hsw30 : w.heap.size < w3.heap.size := (by have := hb.size; (try simp at this); omega); have hsw31 : w.heap.size + 1 < w3.heap.size := (by have := hb.size; (try simp at this); omega); have hsw32 : w.heap.size + 2 < w3.heap.size := (by have := hb.size; (try simp at this); omega); clear _tk tk2) | (go_at_call 44; refine (HL2.out _).mono ?_; rintro e w4 ⟨rfl, hb⟩; obtain ⟨hc, hf⟩ := bcell hb; have hBw4 : Below w.heap.size w w4 := Below.trans (by go_grown) (hb.mono (by go_size)); have hzw4 := hBw4.size; have hsw40 : w.heap.size < w4.heap.size := (by have := hb.size; (try simp at this); omega); have hsw41 : w.heap.size + 1 < w4.heap.size := (by have := hb.size; (try simp at this); omega); have hsw42 : w.heap.size + 2 < w4.heap.size := (by have := hb.size; (try simp at this); omega)) | (go_at_call 45; refine (c_divU _ _ _ (by omega) (by omega)).mono ?_; rintro e w' ⟨rfl, kk, rfl⟩) | (go_at_call 39; refine (c_mul64 _ _ _ (by omega) (by omega) (by omega) (by omega)).mono ?_; rintro e w' ⟨rfl, rfl⟩) | (go_at_call 47; refine (c_div64 _ _ _ _ (by omega) (by omega) (by omega) (by omega) (by omega)).mono ?_; rintro e w' ⟨rfl, kk, rfl⟩) | simp only [add64_0 x0 y0 b3 b4 b7 b8] | simp only [add64 x1 y1 c b1 b2 b5 b6 b11 b12])
  refine bodyPost_ret (v := .tuple #[.agg #[.int .i64 num, .int .i64 t0], .bool true]) (by simp [results, Try.results21, go_sem, hc, *]) rfl ⟨rfl, ?_⟩
  repeat' (first | (with_reducible exact Below.refl _ _) | (with_reducible assumption) | (with_reducible refine below_drewN ?_ _) | (with_reducible refine Below.drew ?_) | (with_reducible refine Below.alloc ?_ ?_ _) | (with_reducible refine Below.setCell ?_ ?_ _) | go_size)

set_option maxHeartbeats 3200000 in
set_option maxRecDepth 100000 in
theorem c_add_n1 (an ad bn bd n1 d1 n2 d2 g e1 e2 x1 x0 y1 y0 S0 c S1 rr k f2 t1 t0 num : Int) (w : World)
    (hka : ∀ w, Calls Try.prog 43 #[.agg #[.int .i64 an, .int .i64 ad]] w fun e w' => e = .returned (.bool true) ∧ Below w.heap.size w w')
    (hkb : ∀ w, Calls Try.prog 43 #[.agg #[.int .i64 bn, .int .i64 bd]] w fun e w' => e = .returned (.bool true) ∧ Below w.heap.size w w')
    (hl1 : ∀ w, Calls Try.prog 44 #[.agg #[.int .i64 an, .int .i64 ad]] w fun e w' => e = .returned (.tuple #[.int .u64 n1, .int .u64 d1]) ∧ Below w.heap.size w w')
    (hl2 : ∀ w, Calls Try.prog 44 #[.agg #[.int .i64 bn, .int .i64 bd]] w fun e w' => e = .returned (.tuple #[.int .u64 n2, .int .u64 d2]) ∧ Below w.heap.size w w')
    (p1 : 0 ≤ n1) (p2 : n1 ≤ 9223372036854775807) (p3 : 1 ≤ d1) (p4 : d1 ≤ 9223372036854775807) (p5 : 0 ≤ n2) (p6 : n2 ≤ 9223372036854775807) (p7 : 1 ≤ d2) (p8 : d2 ≤ 9223372036854775807)
    (q1 : G d1 d2 = g) (q2 : d1 / g = e1) (q3 : d2 / g = e2) (q4 : n1 * e2 / 18446744073709551616 = x1) (q5 : n1 * e2 % 18446744073709551616 = x0) (q6 : n2 * e1 / 18446744073709551616 = y1) (q7 : n2 * e1 % 18446744073709551616 = y0)
    (q8 : (x0 + y0) % 18446744073709551616 = S0) (q9 : (x0 + y0) / 18446744073709551616 = c) (q10 : (x1 + y1 + c) % 18446744073709551616 = S1) (q11 : (S1 % g * 18446744073709551616 + S0) % g = rr) (q12 : G rr g = k) (q13 : d2 / k = f2) (q14 : e1 * f2 / 18446744073709551616 = t1) (q15 : e1 * f2 % 18446744073709551616 = t0) (q16 : (S1 * 18446744073709551616 + S0) / k = num)
    (r1 : 1 ≤ g) (r2 : g ≤ 9223372036854775807) (r3 : 1 ≤ e1) (r4 : e1 ≤ 9223372036854775807) (r5 : 1 ≤ e2) (r6 : e2 ≤ 9223372036854775807) (r7 : 1 ≤ k) (r8 : k ≤ 9223372036854775807) (r9 : 1 ≤ f2) (r10 : f2 ≤ 9223372036854775807) (r11 : 0 ≤ rr) (r12 : 0 ≤ t0) (r13 : 0 ≤ num) (r14 : t0 < 18446744073709551616) (r15 : 0 ≤ t1)
    (b1 : 0 ≤ x1) (b2 : x1 < 18446744073709551616) (b3 : 0 ≤ x0) (b4 : x0 < 18446744073709551616) (b5 : 0 ≤ y1) (b6 : y1 < 18446744073709551616) (b7 : 0 ≤ y0) (b8 : y0 < 18446744073709551616) (b9 : 0 ≤ S0) (b10 : S0 < 18446744073709551616) (b11 : 0 ≤ c) (b12 : c ≤ 1) (b13 : 0 ≤ S1) (b14 : S1 < 18446744073709551616)
    (z1 : k ≤ S1) :
    Calls Try.prog 21 #[.agg #[.int .i64 an, .int .i64 ad], .agg #[.int .i64 bn, .int .i64 bd]] w fun e w' => e = .returned (.tuple #[.agg #[.int .i64 0, .int .i64 0], .bool false]) ∧ Below w.heap.size w w' := by
  have tk1 : True := trivial
  have tk2 : True := trivial
  have HKa := Lib.hid hka
  have HKb := Lib.hid hkb
  have HL1 := Lib.hid hl1
  have HL2 := Lib.hid hl2
  clear hka hkb hl1 hl2
  have m1 := Int.emod_nonneg S1 (show g ≠ 0 by omega)
  have m2 := Int.emod_lt_of_pos S1 (show 0 < g by omega)
  go_enter Try.func21, Try.ntmps21
  go_wp2_with (first | (have _tk := tk1; go_at_call 43; refine (HKa.out _).mono ?_; rintro e w1 ⟨rfl, hb⟩; obtain ⟨hc, hf⟩ := bcell hb; have hBw1 : Below w.heap.size w w1 := Below.trans (by go_grown) (hb.mono (by go_size)); have hzw1 := hBw1.size; have hsw10 : w.heap.size < w1.heap.size := (by have := hb.size; (try simp at this); omega); have hsw11 : w.heap.size + 1 < w1.heap.size := (by have := hb.size; (try simp at this); omega); have hsw12 : w.heap.size + 2 < w1.heap.size := (by have := hb.size; (try simp at this); omega); clear _tk tk1) | (go_at_call 43; refine (HKb.out _).mono ?_; rintro e w2 ⟨rfl, hb⟩; obtain ⟨hc, hf⟩ := bcell hb; have hBw2 : Below w.heap.size w w2 := Below.trans (by go_grown) (hb.mono (by go_size)); have hzw2 := hBw2.size; have hsw20 : w.heap.size < w2.heap.size := (by have := hb.size; (try simp at this); omega); have hsw21 : w.heap.size + 1 < w2.heap.size := (by have := hb.size; (try simp at this); omega); have hsw22 : w.heap.size + 2 < w2.heap.size := (by have := hb.size; (try simp at this); omega)) | (have _tk := tk2; go_at_call 44; refine (HL1.out _).mono ?_; rintro e w3 ⟨rfl, hb⟩; obtain ⟨hc, hf⟩ := bcell hb; have hBw3 : Below w.heap.size w w3 := Below.trans (by go_grown) (hb.mono (by go_size)); have hzw3 := hBw3.size; have hsw30 : w.heap.size < w3.heap.size := (by have := hb.size; (try simp at this); omega); have hsw31 : w.heap.size + 1 < w3.heap.size := (by have := hb.size; (try simp at this); omega); have hsw32 : w.heap.size + 2 < w3.heap.size := (by have := hb.size; (try simp at this); omega); clear _tk tk2) | (go_at_call 44; refine (HL2.out _).mono ?_; rintro e w4 ⟨rfl, hb⟩; obtain ⟨hc, hf⟩ := bcell hb; have hBw4 : Below w.heap.size w w4 := Below.trans (by go_grown) (hb.mono (by go_size)); have hzw4 := hBw4.size; have hsw40 : w.heap.size < w4.heap.size := (by have := hb.size; (try simp at this); omega); have hsw41 : w.heap.size + 1 < w4.heap.size := (by have := hb.size; (try simp at this); omega); have hsw42 : w.heap.size + 2 < w4.heap.size := (by have := hb.size; (try simp at this); omega)) | (go_at_call 45; refine (c_divU _ _ _ (by omega) (by omega)).mono ?_; rintro e w' ⟨rfl, kk, rfl⟩) | (go_at_call 39; refine (c_mul64 _ _ _ (by omega) (by omega) (by omega) (by omega)).mono ?_; rintro e w' ⟨rfl, rfl⟩) | (go_at_call 47; refine (c_div64 _ _ _ _ (by omega) (by omega) (by omega) (by omega) (by omega)).mono ?_; rintro e w' ⟨rfl, kk, rfl⟩) | simp only [add64_0 x0 y0 b3 b4 b7 b8] | simp only [add64 x1 y1 c b1 b2 b5 b6 b11 b12])
  go_quiet (first | (go_at_call 39; exact quiet_left1 (c_mul64 _ _ _ (by omega) (by omega) (by omega) (by omega))) | (go_at_call 39; exact quiet_left0 (c_mul64 _ _ _ (by omega) (by omega) (by omega) (by omega))))
  go_wp2_with (first | (have _tk := tk1; go_at_call 43; refine (HKa.out _).mono ?_; rintro e w1 ⟨rfl, hb⟩; obtain ⟨hc, hf⟩ := bcell hb; have hBw1 : Below w.heap.size w w1 := Below.trans (by go_grown) (hb.mono (by go_size)); have hzw1 := hBw1.size; have hsw10 : w.heap.size < w1.heap.size := (by have := hb.size; (try simp at this); omega); have hsw11 : w.heap.size + 1 < w1.heap.size := (by have := hb.size; (try simp at this); omega); have hsw12 : w.heap.size + 2 < w1.heap.size := (by have := hb.size; (try simp at this); omega); clear _tk tk1) | (go_at_call 43; refine (HKb.out _).mono ?_; rintro e w2 ⟨rfl, hb⟩; obtain ⟨hc, hf⟩ := bcell hb; have hBw2 : Below w.heap.size w w2 := Below.trans (by go_grown) (hb.mono (by go_size)); have hzw2 := hBw2.size; have hsw20 : w.heap.size < w2.heap.size := (by have := hb.size; (try simp at this); omega); have hsw21 : w.heap.size + 1 < w2.heap.size := (by have := hb.size; (try simp at this); omega); have hsw22 : w.heap.size + 2 < w2.heap.size := (by have := hb.size; (try simp at this); omega)) | (have _tk := tk2; go_at_call 44; refine (HL1.out _).mono ?_; rintro e w3 ⟨rfl, hb⟩; obtain ⟨hc, hf⟩ := bcell hb; have hBw3 : Below w.heap.size w w3 := Below.trans (by go_grown) (hb.mono (by go_size)); have hzw3 := hBw3.size; have hsw30 : w.heap.size < w3.heap.size := (by have := hb.size; (try simp at this); omega); have hsw31 : w.heap.size + 1 < w3.heap.size := (by have := hb.size; (try simp at this); omega); have hsw32 : w.heap.size + 2 < w3.heap.size := (by have := hb.size; (try simp at this); omega); clear _tk tk2) | (go_at_call 44; refine (HL2.out _).mono ?_; rintro e w4 ⟨rfl, hb⟩; obtain ⟨hc, hf⟩ := bcell hb; have hBw4 : Below w.heap.size w w4 := Below.trans (by go_grown) (hb.mono (by go_size)); have hzw4 := hBw4.size; have hsw40 : w.heap.size < w4.heap.size := (by have := hb.size; (try simp at this); omega); have hsw41 : w.heap.size + 1 < w4.heap.size := (by have := hb.size; (try simp at this); omega); have hsw42 : w.heap.size + 2 < w4.heap.size := (by have := hb.size; (try simp at this); omega)) | (go_at_call 45; refine (c_divU _ _ _ (by omega) (by omega)).mono ?_; rintro e w' ⟨rfl, kk, rfl⟩) | (go_at_call 39; refine (c_mul64 _ _ _ (by omega) (by omega) (by omega) (by omega)).mono ?_; rintro e w' ⟨rfl, rfl⟩) | (go_at_call 47; refine (c_div64 _ _ _ _ (by omega) (by omega) (by omega) (by omega) (by omega)).mono ?_; rintro e w' ⟨rfl, kk, rfl⟩) | simp only [add64_0 x0 y0 b3 b4 b7 b8] | simp only [add64 x1 y1 c b1 b2 b5 b6 b11 b12])
  refine bodyPost_ret (v := .tuple #[.agg #[.int .i64 0, .int .i64 0], .bool false]) (by simp [results, Try.results21, go_sem, hc, *]) rfl ⟨rfl, ?_⟩
  repeat' (first | (with_reducible exact Below.refl _ _) | (with_reducible assumption) | (with_reducible refine below_drewN ?_ _) | (with_reducible refine Below.drew ?_) | (with_reducible refine Below.alloc ?_ ?_ _) | (with_reducible refine Below.setCell ?_ ?_ _) | go_size)

set_option maxHeartbeats 3200000 in
set_option maxRecDepth 100000 in
theorem c_add_n2 (an ad bn bd n1 d1 n2 d2 g e1 e2 x1 x0 y1 y0 S0 c S1 rr k f2 t1 t0 num : Int) (w : World)
    (hka : ∀ w, Calls Try.prog 43 #[.agg #[.int .i64 an, .int .i64 ad]] w fun e w' => e = .returned (.bool true) ∧ Below w.heap.size w w')
    (hkb : ∀ w, Calls Try.prog 43 #[.agg #[.int .i64 bn, .int .i64 bd]] w fun e w' => e = .returned (.bool true) ∧ Below w.heap.size w w')
    (hl1 : ∀ w, Calls Try.prog 44 #[.agg #[.int .i64 an, .int .i64 ad]] w fun e w' => e = .returned (.tuple #[.int .u64 n1, .int .u64 d1]) ∧ Below w.heap.size w w')
    (hl2 : ∀ w, Calls Try.prog 44 #[.agg #[.int .i64 bn, .int .i64 bd]] w fun e w' => e = .returned (.tuple #[.int .u64 n2, .int .u64 d2]) ∧ Below w.heap.size w w')
    (p1 : 0 ≤ n1) (p2 : n1 ≤ 9223372036854775807) (p3 : 1 ≤ d1) (p4 : d1 ≤ 9223372036854775807) (p5 : 0 ≤ n2) (p6 : n2 ≤ 9223372036854775807) (p7 : 1 ≤ d2) (p8 : d2 ≤ 9223372036854775807)
    (q1 : G d1 d2 = g) (q2 : d1 / g = e1) (q3 : d2 / g = e2) (q4 : n1 * e2 / 18446744073709551616 = x1) (q5 : n1 * e2 % 18446744073709551616 = x0) (q6 : n2 * e1 / 18446744073709551616 = y1) (q7 : n2 * e1 % 18446744073709551616 = y0)
    (q8 : (x0 + y0) % 18446744073709551616 = S0) (q9 : (x0 + y0) / 18446744073709551616 = c) (q10 : (x1 + y1 + c) % 18446744073709551616 = S1) (q11 : (S1 % g * 18446744073709551616 + S0) % g = rr) (q12 : G rr g = k) (q13 : d2 / k = f2) (q14 : e1 * f2 / 18446744073709551616 = t1) (q15 : e1 * f2 % 18446744073709551616 = t0) (q16 : (S1 * 18446744073709551616 + S0) / k = num)
    (r1 : 1 ≤ g) (r2 : g ≤ 9223372036854775807) (r3 : 1 ≤ e1) (r4 : e1 ≤ 9223372036854775807) (r5 : 1 ≤ e2) (r6 : e2 ≤ 9223372036854775807) (r7 : 1 ≤ k) (r8 : k ≤ 9223372036854775807) (r9 : 1 ≤ f2) (r10 : f2 ≤ 9223372036854775807) (r11 : 0 ≤ rr) (r12 : 0 ≤ t0) (r13 : 0 ≤ num) (r14 : t0 < 18446744073709551616) (r15 : 0 ≤ t1)
    (b1 : 0 ≤ x1) (b2 : x1 < 18446744073709551616) (b3 : 0 ≤ x0) (b4 : x0 < 18446744073709551616) (b5 : 0 ≤ y1) (b6 : y1 < 18446744073709551616) (b7 : 0 ≤ y0) (b8 : y0 < 18446744073709551616) (b9 : 0 ≤ S0) (b10 : S0 < 18446744073709551616) (b11 : 0 ≤ c) (b12 : c ≤ 1) (b13 : 0 ≤ S1) (b14 : S1 < 18446744073709551616)
    (z1 : S1 < k) (z2 : 0 < t1) :
    Calls Try.prog 21 #[.agg #[.int .i64 an, .int .i64 ad], .agg #[.int .i64 bn, .int .i64 bd]] w fun e w' => e = .returned (.tuple #[.agg #[.int .i64 0, .int .i64 0], .bool false]) ∧ Below w.heap.size w w' := by
  have tk1 : True := trivial
  have tk2 : True := trivial
  have HKa := Lib.hid hka
  have HKb := Lib.hid hkb
  have HL1 := Lib.hid hl1
  have HL2 := Lib.hid hl2
  clear hka hkb hl1 hl2
  have m1 := Int.emod_nonneg S1 (show g ≠ 0 by omega)
  have m2 := Int.emod_lt_of_pos S1 (show 0 < g by omega)
  go_enter Try.func21, Try.ntmps21
  go_wp2_with (first | (have _tk := tk1; go_at_call 43; refine (HKa.out _).mono ?_; rintro e w1 ⟨rfl, hb⟩; obtain ⟨hc, hf⟩ := bcell hb; have hBw1 : Below w.heap.size w w1 := Below.trans (by go_grown) (hb.mono (by go_size)); have hzw1 := hBw1.size; have hsw10 : w.heap.size < w1.heap.size := (by have := hb.size; (try simp at this); omega); have hsw11 : w.heap.size + 1 < w1.heap.size := (by have := hb.size; (try simp at this); omega); have hsw12 : w.heap.size + 2 < w1.heap.size := (by have := hb.size; (try simp at this); omega); clear _tk tk1) | (go_at_call 43; refine (HKb.out _).mono ?_; rintro e w2 ⟨rfl, hb⟩; obtain ⟨hc, hf⟩ := bcell hb; have hBw2 : Below w.heap.size w w2 := Below.trans (by go_grown) (hb.mono (by go_size)); have hzw2 := hBw2.size; have hsw20 : w.heap.size < w2.heap.size := (by have := hb.size; (try simp at this); omega); have hsw21 : w.heap.size + 1 < w2.heap.size := (by have := hb.size; (try simp at this); omega); have hsw22 : w.heap.size + 2 < w2.heap.size := (by have := hb.size; (try simp at this); omega)) | (have _tk := tk2; go_at_call 44; refine (HL1.out _).mono ?_; rintro e w3 ⟨rfl, hb⟩; obtain ⟨hc, hf⟩ := bcell hb; have hBw3 : Below w.heap.size w w3 := Below.trans (by go_grown) (hb.mono (by go_size)); have hzw3 := hBw3.size; have hsw30 : w.heap.size < w3.heap.size := (by have := hb.size; (try simp at this); omega); have hsw31 : w.heap.size + 1 < w3.heap.size := (by have := hb.size; (try simp at this); omega); have hsw32 : w.heap.size + 2 < w3.heap.size := (by have := hb.size; (try simp at this); omega); clear _tk tk2) | (go_at_call 44; refine (HL2.out _).mono ?_; rintro e w4 ⟨rfl, hb⟩; obtain ⟨hc, hf⟩ := bcell hb; have hBw4 : Below w.heap.size w w4 := Below.trans (by go_grown) (hb.mono (by go_size)); have hzw4 := hBw4.size; have hsw40 : w.heap.size < w4.heap.size := (by have := hb.size; (try simp at this); omega); have hsw41 : w.heap.size + 1 < w4.heap.size := (by have := hb.size; (try simp at this); omega); have hsw42 : w.heap.size + 2 < w4.heap.size := (by have := hb.size; (try simp at this); omega)) | (go_at_call 45; refine (c_divU _ _ _ (by omega) (by omega)).mono ?_; rintro e w' ⟨rfl, kk, rfl⟩) | (go_at_call 39; refine (c_mul64 _ _ _ (by omega) (by omega) (by omega) (by omega)).mono ?_; rintro e w' ⟨rfl, rfl⟩) | (go_at_call 47; refine (c_div64 _ _ _ _ (by omega) (by omega) (by omega) (by omega) (by omega)).mono ?_; rintro e w' ⟨rfl, kk, rfl⟩) | simp only [add64_0 x0 y0 b3 b4 b7 b8] | simp only [add64 x1 y1 c b1 b2 b5 b6 b11 b12])
  go_quiet (first | (go_at_call 39; exact quiet_left1 (c_mul64 _ _ _ (by omega) (by omega) (by omega) (by omega))) | (go_at_call 39; exact quiet_left0 (c_mul64 _ _ _ (by omega) (by omega) (by omega) (by omega))))
  go_wp2_with (first | (have _tk := tk1; go_at_call 43; refine (HKa.out _).mono ?_; rintro e w1 ⟨rfl, hb⟩; obtain ⟨hc, hf⟩ := bcell hb; have hBw1 : Below w.heap.size w w1 := Below.trans (by go_grown) (hb.mono (by go_size)); have hzw1 := hBw1.size; have hsw10 : w.heap.size < w1.heap.size := (by have := hb.size; (try simp at this); omega); have hsw11 : w.heap.size + 1 < w1.heap.size := (by have := hb.size; (try simp at this); omega); have hsw12 : w.heap.size + 2 < w1.heap.size := (by have := hb.size; (try simp at this); omega); clear _tk tk1) | (go_at_call 43; refine (HKb.out _).mono ?_; rintro e w2 ⟨rfl, hb⟩; obtain ⟨hc, hf⟩ := bcell hb; have hBw2 : Below w.heap.size w w2 := Below.trans (by go_grown) (hb.mono (by go_size)); have hzw2 := hBw2.size; have hsw20 : w.heap.size < w2.heap.size := (by have := hb.size; (try simp at this); omega); have hsw21 : w.heap.size + 1 < w2.heap.size := (by have := hb.size; (try simp at this); omega); have hsw22 : w.heap.size + 2 < w2.heap.size := (by have := hb.size; (try simp at this); omega)) | (have _tk := tk2; go_at_call 44; refine (HL1.out _).mono ?_; rintro e w3 ⟨rfl, hb⟩; obtain ⟨hc, hf⟩ := bcell hb; have hBw3 : Below w.heap.size w w3 := Below.trans (by go_grown) (hb.mono (by go_size)); have hzw3 := hBw3.size; have hsw30 : w.heap.size < w3.heap.size := (by have := hb.size; (try simp at this); omega); have hsw31 : w.heap.size + 1 < w3.heap.size := (by have := hb.size; (try simp at this); omega); have hsw32 : w.heap.size + 2 < w3.heap.size := (by have := hb.size; (try simp at this); omega); clear _tk tk2) | (go_at_call 44; refine (HL2.out _).mono ?_; rintro e w4 ⟨rfl, hb⟩; obtain ⟨hc, hf⟩ := bcell hb; have hBw4 : Below w.heap.size w w4 := Below.trans (by go_grown) (hb.mono (by go_size)); have hzw4 := hBw4.size; have hsw40 : w.heap.size < w4.heap.size := (by have := hb.size; (try simp at this); omega); have hsw41 : w.heap.size + 1 < w4.heap.size := (by have := hb.size; (try simp at this); omega); have hsw42 : w.heap.size + 2 < w4.heap.size := (by have := hb.size; (try simp at this); omega)) | (go_at_call 45; refine (c_divU _ _ _ (by omega) (by omega)).mono ?_; rintro e w' ⟨rfl, kk, rfl⟩) | (go_at_call 39; refine (c_mul64 _ _ _ (by omega) (by omega) (by omega) (by omega)).mono ?_; rintro e w' ⟨rfl, rfl⟩) | (go_at_call 47; refine (c_div64 _ _ _ _ (by omega) (by omega) (by omega) (by omega) (by omega)).mono ?_; rintro e w' ⟨rfl, kk, rfl⟩) | simp only [add64_0 x0 y0 b3 b4 b7 b8] | simp only [add64 x1 y1 c b1 b2 b5 b6 b11 b12])
  refine bodyPost_ret (v := .tuple #[.agg #[.int .i64 0, .int .i64 0], .bool false]) (by simp [results, Try.results21, go_sem, hc, *]) rfl ⟨rfl, ?_⟩
  repeat' (first | (with_reducible exact Below.refl _ _) | (with_reducible assumption) | (with_reducible refine below_drewN ?_ _) | (with_reducible refine Below.drew ?_) | (with_reducible refine Below.alloc ?_ ?_ _) | (with_reducible refine Below.setCell ?_ ?_ _) | go_size)

set_option maxHeartbeats 3200000 in
set_option maxRecDepth 100000 in
theorem c_add_n3 (an ad bn bd n1 d1 n2 d2 g e1 e2 x1 x0 y1 y0 S0 c S1 rr k f2 t1 t0 num : Int) (w : World)
    (hka : ∀ w, Calls Try.prog 43 #[.agg #[.int .i64 an, .int .i64 ad]] w fun e w' => e = .returned (.bool true) ∧ Below w.heap.size w w')
    (hkb : ∀ w, Calls Try.prog 43 #[.agg #[.int .i64 bn, .int .i64 bd]] w fun e w' => e = .returned (.bool true) ∧ Below w.heap.size w w')
    (hl1 : ∀ w, Calls Try.prog 44 #[.agg #[.int .i64 an, .int .i64 ad]] w fun e w' => e = .returned (.tuple #[.int .u64 n1, .int .u64 d1]) ∧ Below w.heap.size w w')
    (hl2 : ∀ w, Calls Try.prog 44 #[.agg #[.int .i64 bn, .int .i64 bd]] w fun e w' => e = .returned (.tuple #[.int .u64 n2, .int .u64 d2]) ∧ Below w.heap.size w w')
    (p1 : 0 ≤ n1) (p2 : n1 ≤ 9223372036854775807) (p3 : 1 ≤ d1) (p4 : d1 ≤ 9223372036854775807) (p5 : 0 ≤ n2) (p6 : n2 ≤ 9223372036854775807) (p7 : 1 ≤ d2) (p8 : d2 ≤ 9223372036854775807)
    (q1 : G d1 d2 = g) (q2 : d1 / g = e1) (q3 : d2 / g = e2) (q4 : n1 * e2 / 18446744073709551616 = x1) (q5 : n1 * e2 % 18446744073709551616 = x0) (q6 : n2 * e1 / 18446744073709551616 = y1) (q7 : n2 * e1 % 18446744073709551616 = y0)
    (q8 : (x0 + y0) % 18446744073709551616 = S0) (q9 : (x0 + y0) / 18446744073709551616 = c) (q10 : (x1 + y1 + c) % 18446744073709551616 = S1) (q11 : (S1 % g * 18446744073709551616 + S0) % g = rr) (q12 : G rr g = k) (q13 : d2 / k = f2) (q14 : e1 * f2 / 18446744073709551616 = t1) (q15 : e1 * f2 % 18446744073709551616 = t0) (q16 : (S1 * 18446744073709551616 + S0) / k = num)
    (r1 : 1 ≤ g) (r2 : g ≤ 9223372036854775807) (r3 : 1 ≤ e1) (r4 : e1 ≤ 9223372036854775807) (r5 : 1 ≤ e2) (r6 : e2 ≤ 9223372036854775807) (r7 : 1 ≤ k) (r8 : k ≤ 9223372036854775807) (r9 : 1 ≤ f2) (r10 : f2 ≤ 9223372036854775807) (r11 : 0 ≤ rr) (r12 : 0 ≤ t0) (r13 : 0 ≤ num) (r14 : t0 < 18446744073709551616) (r15 : 0 ≤ t1)
    (b1 : 0 ≤ x1) (b2 : x1 < 18446744073709551616) (b3 : 0 ≤ x0) (b4 : x0 < 18446744073709551616) (b5 : 0 ≤ y1) (b6 : y1 < 18446744073709551616) (b7 : 0 ≤ y0) (b8 : y0 < 18446744073709551616) (b9 : 0 ≤ S0) (b10 : S0 < 18446744073709551616) (b11 : 0 ≤ c) (b12 : c ≤ 1) (b13 : 0 ≤ S1) (b14 : S1 < 18446744073709551616)
    (z1 : S1 < k) (z2 : t1 ≤ 0) (z3 : 9223372036854775807 < t0) :
    Calls Try.prog 21 #[.agg #[.int .i64 an, .int .i64 ad], .agg #[.int .i64 bn, .int .i64 bd]] w fun e w' => e = .returned (.tuple #[.agg #[.int .i64 0, .int .i64 0], .bool false]) ∧ Below w.heap.size w w' := by
  have tk1 : True := trivial
  have tk2 : True := trivial
  have HKa := Lib.hid hka
  have HKb := Lib.hid hkb
  have HL1 := Lib.hid hl1
  have HL2 := Lib.hid hl2
  clear hka hkb hl1 hl2
  have m1 := Int.emod_nonneg S1 (show g ≠ 0 by omega)
  have m2 := Int.emod_lt_of_pos S1 (show 0 < g by omega)
  go_enter Try.func21, Try.ntmps21
  go_wp2_with (first | (have _tk := tk1; go_at_call 43; refine (HKa.out _).mono ?_; rintro e w1 ⟨rfl, hb⟩; obtain ⟨hc, hf⟩ := bcell hb; have hBw1 : Below w.heap.size w w1 := Below.trans (by go_grown) (hb.mono (by go_size)); have hzw1 := hBw1.size; have hsw10 : w.heap.size < w1.heap.size := (by have := hb.size; (try simp at this); omega); have hsw11 : w.heap.size + 1 < w1.heap.size := (by have := hb.size; (try simp at this); omega); have hsw12 : w.heap.size + 2 < w1.heap.size := (by have := hb.size; (try simp at this); omega); clear _tk tk1) | (go_at_call 43; refine (HKb.out _).mono ?_; rintro e w2 ⟨rfl, hb⟩; obtain ⟨hc, hf⟩ := bcell hb; have hBw2 : Below w.heap.size w w2 := Below.trans (by go_grown) (hb.mono (by go_size)); have hzw2 := hBw2.size; have hsw20 : w.heap.size < w2.heap.size := (by have := hb.size; (try simp at this); omega); have hsw21 : w.heap.size + 1 < w2.heap.size := (by have := hb.size; (try simp at this); omega); have hsw22 : w.heap.size + 2 < w2.heap.size := (by have := hb.size; (try simp at this); omega)) | (have _tk := tk2; go_at_call 44; refine (HL1.out _).mono ?_; rintro e w3 ⟨rfl, hb⟩; obtain ⟨hc, hf⟩ := bcell hb; have hBw3 : Below w.heap.size w w3 := Below.trans (by go_grown) (hb.mono (by go_size)); have hzw3 := hBw3.size; have hsw30 : w.heap.size < w3.heap.size := (by have := hb.size; (try simp at this); omega); have hsw31 : w.heap.size + 1 < w3.heap.size := (by have := hb.size; (try simp at this); omega); have hsw32 : w.heap.size + 2 < w3.heap.size := (by have := hb.size; (try simp at this); omega); clear _tk tk2) | (go_at_call 44; refine (HL2.out _).mono ?_; rintro e w4 ⟨rfl, hb⟩; obtain ⟨hc, hf⟩ := bcell hb; have hBw4 : Below w.heap.size w w4 := Below.trans (by go_grown) (hb.mono (by go_size)); have hzw4 := hBw4.size; have hsw40 : w.heap.size < w4.heap.size := (by have := hb.size; (try simp at this); omega); have hsw41 : w.heap.size + 1 < w4.heap.size := (by have := hb.size; (try simp at this); omega); have hsw42 : w.heap.size + 2 < w4.heap.size := (by have := hb.size; (try simp at this); omega)) | (go_at_call 45; refine (c_divU _ _ _ (by omega) (by omega)).mono ?_; rintro e w' ⟨rfl, kk, rfl⟩) | (go_at_call 39; refine (c_mul64 _ _ _ (by omega) (by omega) (by omega) (by omega)).mono ?_; rintro e w' ⟨rfl, rfl⟩) | (go_at_call 47; refine (c_div64 _ _ _ _ (by omega) (by omega) (by omega) (by omega) (by omega)).mono ?_; rintro e w' ⟨rfl, kk, rfl⟩) | simp only [add64_0 x0 y0 b3 b4 b7 b8] | simp only [add64 x1 y1 c b1 b2 b5 b6 b11 b12])
  go_quiet (first | (go_at_call 39; exact quiet_left1 (c_mul64 _ _ _ (by omega) (by omega) (by omega) (by omega))) | (go_at_call 39; exact quiet_left0 (c_mul64 _ _ _ (by omega) (by omega) (by omega) (by omega))))
  go_wp2_with (first | (have _tk := tk1; go_at_call 43; refine (HKa.out _).mono ?_; rintro e w1 ⟨rfl, hb⟩; obtain ⟨hc, hf⟩ := bcell hb; have hBw1 : Below w.heap.size w w1 := Below.trans (by go_grown) (hb.mono (by go_size)); have hzw1 := hBw1.size; have hsw10 : w.heap.size < w1.heap.size := (by have := hb.size; (try simp at this); omega); have hsw11 : w.heap.size + 1 < w1.heap.size := (by have := hb.size; (try simp at this); omega); have hsw12 : w.heap.size + 2 < w1.heap.size := (by have := hb.size; (try simp at this); omega); clear _tk tk1) | (go_at_call 43; refine (HKb.out _).mono ?_; rintro e w2 ⟨rfl, hb⟩; obtain ⟨hc, hf⟩ := bcell hb; have hBw2 : Below w.heap.size w w2 := Below.trans (by go_grown) (hb.mono (by go_size)); have hzw2 := hBw2.size; have hsw20 : w.heap.size < w2.heap.size := (by have := hb.size; (try simp at this); omega); have hsw21 : w.heap.size + 1 < w2.heap.size := (by have := hb.size; (try simp at this); omega); have hsw22 : w.heap.size + 2 < w2.heap.size := (by have := hb.size; (try simp at this); omega)) | (have _tk := tk2; go_at_call 44; refine (HL1.out _).mono ?_; rintro e w3 ⟨rfl, hb⟩; obtain ⟨hc, hf⟩ := bcell hb; have hBw3 : Below w.heap.size w w3 := Below.trans (by go_grown) (hb.mono (by go_size)); have hzw3 := hBw3.size; have hsw30 : w.heap.size < w3.heap.size := (by have := hb.size; (try simp at this); omega); have hsw31 : w.heap.size + 1 < w3.heap.size := (by have := hb.size; (try simp at this); omega); have hsw32 : w.heap.size + 2 < w3.heap.size := (by have := hb.size; (try simp at this); omega); clear _tk tk2) | (go_at_call 44; refine (HL2.out _).mono ?_; rintro e w4 ⟨rfl, hb⟩; obtain ⟨hc, hf⟩ := bcell hb; have hBw4 : Below w.heap.size w w4 := Below.trans (by go_grown) (hb.mono (by go_size)); have hzw4 := hBw4.size; have hsw40 : w.heap.size < w4.heap.size := (by have := hb.size; (try simp at this); omega); have hsw41 : w.heap.size + 1 < w4.heap.size := (by have := hb.size; (try simp at this); omega); have hsw42 : w.heap.size + 2 < w4.heap.size := (by have := hb.size; (try simp at this); omega)) | (go_at_call 45; refine (c_divU _ _ _ (by omega) (by omega)).mono ?_; rintro e w' ⟨rfl, kk, rfl⟩) | (go_at_call 39; refine (c_mul64 _ _ _ (by omega) (by omega) (by omega) (by omega)).mono ?_; rintro e w' ⟨rfl, rfl⟩) | (go_at_call 47; refine (c_div64 _ _ _ _ (by omega) (by omega) (by omega) (by omega) (by omega)).mono ?_; rintro e w' ⟨rfl, kk, rfl⟩) | simp only [add64_0 x0 y0 b3 b4 b7 b8] | simp only [add64 x1 y1 c b1 b2 b5 b6 b11 b12])
  refine bodyPost_ret (v := .tuple #[.agg #[.int .i64 0, .int .i64 0], .bool false]) (by simp [results, Try.results21, go_sem, hc, *]) rfl ⟨rfl, ?_⟩
  repeat' (first | (with_reducible exact Below.refl _ _) | (with_reducible assumption) | (with_reducible refine below_drewN ?_ _) | (with_reducible refine Below.drew ?_) | (with_reducible refine Below.alloc ?_ ?_ _) | (with_reducible refine Below.setCell ?_ ?_ _) | go_size)

set_option maxHeartbeats 3200000 in
set_option maxRecDepth 100000 in
theorem c_add_n4 (an ad bn bd n1 d1 n2 d2 g e1 e2 x1 x0 y1 y0 S0 c S1 rr k f2 t1 t0 num : Int) (w : World)
    (hka : ∀ w, Calls Try.prog 43 #[.agg #[.int .i64 an, .int .i64 ad]] w fun e w' => e = .returned (.bool true) ∧ Below w.heap.size w w')
    (hkb : ∀ w, Calls Try.prog 43 #[.agg #[.int .i64 bn, .int .i64 bd]] w fun e w' => e = .returned (.bool true) ∧ Below w.heap.size w w')
    (hl1 : ∀ w, Calls Try.prog 44 #[.agg #[.int .i64 an, .int .i64 ad]] w fun e w' => e = .returned (.tuple #[.int .u64 n1, .int .u64 d1]) ∧ Below w.heap.size w w')
    (hl2 : ∀ w, Calls Try.prog 44 #[.agg #[.int .i64 bn, .int .i64 bd]] w fun e w' => e = .returned (.tuple #[.int .u64 n2, .int .u64 d2]) ∧ Below w.heap.size w w')
    (p1 : 0 ≤ n1) (p2 : n1 ≤ 9223372036854775807) (p3 : 1 ≤ d1) (p4 : d1 ≤ 9223372036854775807) (p5 : 0 ≤ n2) (p6 : n2 ≤ 9223372036854775807) (p7 : 1 ≤ d2) (p8 : d2 ≤ 9223372036854775807)
    (q1 : G d1 d2 = g) (q2 : d1 / g = e1) (q3 : d2 / g = e2) (q4 : n1 * e2 / 18446744073709551616 = x1) (q5 : n1 * e2 % 18446744073709551616 = x0) (q6 : n2 * e1 / 18446744073709551616 = y1) (q7 : n2 * e1 % 18446744073709551616 = y0)
    (q8 : (x0 + y0) % 18446744073709551616 = S0) (q9 : (x0 + y0) / 18446744073709551616 = c) (q10 : (x1 + y1 + c) % 18446744073709551616 = S1) (q11 : (S1 % g * 18446744073709551616 + S0) % g = rr) (q12 : G rr g = k) (q13 : d2 / k = f2) (q14 : e1 * f2 / 18446744073709551616 = t1) (q15 : e1 * f2 % 18446744073709551616 = t0) (q16 : (S1 * 18446744073709551616 + S0) / k = num)
    (r1 : 1 ≤ g) (r2 : g ≤ 9223372036854775807) (r3 : 1 ≤ e1) (r4 : e1 ≤ 9223372036854775807) (r5 : 1 ≤ e2) (r6 : e2 ≤ 9223372036854775807) (r7 : 1 ≤ k) (r8 : k ≤ 9223372036854775807) (r9 : 1 ≤ f2) (r10 : f2 ≤ 9223372036854775807) (r11 : 0 ≤ rr) (r12 : 0 ≤ t0) (r13 : 0 ≤ num) (r14 : t0 < 18446744073709551616) (r15 : 0 ≤ t1)
    (b1 : 0 ≤ x1) (b2 : x1 < 18446744073709551616) (b3 : 0 ≤ x0) (b4 : x0 < 18446744073709551616) (b5 : 0 ≤ y1) (b6 : y1 < 18446744073709551616) (b7 : 0 ≤ y0) (b8 : y0 < 18446744073709551616) (b9 : 0 ≤ S0) (b10 : S0 < 18446744073709551616) (b11 : 0 ≤ c) (b12 : c ≤ 1) (b13 : 0 ≤ S1) (b14 : S1 < 18446744073709551616)
    (z1 : S1 < k) (z2 : t1 ≤ 0) (z3 : t0 ≤ 9223372036854775807) (z4 : 9223372036854775807 < num) :
    Calls Try.prog 21 #[.agg #[.int .i64 an, .int .i64 ad], .agg #[.int .i64 bn, .int .i64 bd]] w fun e w' => e = .returned (.tuple #[.agg #[.int .i64 0, .int .i64 0], .bool false]) ∧ Below w.heap.size w w' := by
  have tk1 : True := trivial
  have tk2 : True := trivial
  have HKa := Lib.hid hka
  have HKb := Lib.hid hkb
  have HL1 := Lib.hid hl1
  have HL2 := Lib.hid hl2
  clear hka hkb hl1 hl2
  have m1 := Int.emod_nonneg S1 (show g ≠ 0 by omega)
  have m2 := Int.emod_lt_of_pos S1 (show 0 < g by omega)
  go_enter Try.func21, Try.ntmps21
  go_wp2_with (first | (have _tk := tk1; go_at_call 43; refine (HKa.out _).mono ?_; rintro e w1 ⟨rfl, hb⟩; obtain ⟨hc, hf⟩ := bcell hb; have hBw1 : Below w.heap.size w w1 := Below.trans (by go_grown) (hb.mono (by go_size)); have hzw1 := hBw1.size; have hsw10 : w.heap.size < w1.heap.size := (by have := hb.size; (try simp at this); omega); have hsw11 : w.heap.size + 1 < w1.heap.size := (by have := hb.size; (try simp at this); omega); have hsw12 : w.heap.size + 2 < w1.heap.size := (by have := hb.size; (try simp at this); omega); clear _tk tk1) | (go_at_call 43; refine (HKb.out _).mono ?_; rintro e w2 ⟨rfl, hb⟩; obtain ⟨hc, hf⟩ := bcell hb; have hBw2 : Below w.heap.size w w2 := Below.trans (by go_grown) (hb.mono (by go_size)); have hzw2 := hBw2.size; have hsw20 : w.heap.size < w2.heap.size := (by have := hb.size; (try simp at this); omega); have hsw21 : w.heap.size + 1 < w2.heap.size := (by have := hb.size; (try simp at this); omega); have hsw22 : w.heap.size + 2 < w2.heap.size := (by have := hb.size; (try simp at this); omega)) | (have _tk := tk2; go_at_call 44; refine (HL1.out _).mono ?_; rintro e w3 ⟨rfl, hb⟩; obtain ⟨hc, hf⟩ := bcell hb; have hBw3 : Below w.heap.size w w3 := Below.trans (by go_grown) (hb.mono (by go_size)); have hzw3 := hBw3.size; have hsw30 : w.heap.size < w3.heap.size := (by have := hb.size; (try simp at this); omega); have hsw31 : w.heap.size + 1 < w3.heap.size := (by have := hb.size; (try simp at this); omega); have hsw32 : w.heap.size + 2 < w3.heap.size := (by have := hb.size; (try simp at this); omega); clear _tk tk2) | (go_at_call 44; refine (HL2.out _).mono ?_; rintro e w4 ⟨rfl, hb⟩; obtain ⟨hc, hf⟩ := bcell hb; have hBw4 : Below w.heap.size w w4 := Below.trans (by go_grown) (hb.mono (by go_size)); have hzw4 := hBw4.size; have hsw40 : w.heap.size < w4.heap.size := (by have := hb.size; (try simp at this); omega); have hsw41 : w.heap.size + 1 < w4.heap.size := (by have := hb.size; (try simp at this); omega); have hsw42 : w.heap.size + 2 < w4.heap.size := (by have := hb.size; (try simp at this); omega)) | (go_at_call 45; refine (c_divU _ _ _ (by omega) (by omega)).mono ?_; rintro e w' ⟨rfl, kk, rfl⟩) | (go_at_call 39; refine (c_mul64 _ _ _ (by omega) (by omega) (by omega) (by omega)).mono ?_; rintro e w' ⟨rfl, rfl⟩) | (go_at_call 47; refine (c_div64 _ _ _ _ (by omega) (by omega) (by omega) (by omega) (by omega)).mono ?_; rintro e w' ⟨rfl, kk, rfl⟩) | simp only [add64_0 x0 y0 b3 b4 b7 b8] | simp only [add64 x1 y1 c b1 b2 b5 b6 b11 b12])
  go_quiet (first | (go_at_call 39; exact quiet_left1 (c_mul64 _ _ _ (by omega) (by omega) (by omega) (by omega))) | (go_at_call 39; exact quiet_left0 (c_mul64 _ _ _ (by omega) (by omega) (by omega) (by omega))))
  go_wp2_with (first | (have _tk := tk1; go_at_call 43; refine (HKa.out _).mono ?_; rintro e w1 ⟨rfl, hb⟩; obtain ⟨hc, hf⟩ := bcell hb; have hBw1 : Below w.heap.size w w1 := Below.trans (by go_grown) (hb.mono (by go_size)); have hzw1 := hBw1.size; have hsw10 : w.heap.size < w1.heap.size := (by have := hb.size; (try simp at this); omega); have hsw11 : w.heap.size + 1 < w1.heap.size := (by have := hb.size; (try simp at this); omega); have hsw12 : w.heap.size + 2 < w1.heap.size := (by have := hb.size; (try simp at this); omega); clear _tk tk1) | (go_at_call 43; refine (HKb.out _).mono ?_; rintro e w2 ⟨rfl, hb⟩; obtain ⟨hc, hf⟩ := bcell hb; have hBw2 : Below w.heap.size w w2 := Below.trans (by go_grown) (hb.mono (by go_size)); have hzw2 := hBw2.size; have hsw20 : w.heap.size < w2.heap.size := (by have := hb.size; (try simp at this); omega); have hsw21 : w.heap.size + 1 < w2.heap.size := (by have := hb.size; (try simp at this); omega); have hsw22 : w.heap.size + 2 < w2.heap.size := (by have := hb.size; (try simp at this); omega)) | (have _tk := tk2; go_at_call 44; refine (HL1.out _).mono ?_; rintro e w3 ⟨rfl, hb⟩; obtain ⟨hc, hf⟩ := bcell hb; have hBw3 : Below w.heap.size w w3 := Below.trans (by go_grown) (hb.mono (by go_size)); have hzw3 := hBw3.size; have hsw30 : w.heap.size < w3.heap.size := (by have := hb.size; (try simp at this); omega); have hsw31 : w.heap.size + 1 < w3.heap.size := (by have := hb.size; (try simp at this); omega); have hsw32 : w.heap.size + 2 < w3.heap.size := (by have := hb.size; (try simp at this); omega); clear _tk tk2) | (go_at_call 44; refine (HL2.out _).mono ?_; rintro e w4 ⟨rfl, hb⟩; obtain ⟨hc, hf⟩ := bcell hb; have hBw4 : Below w.heap.size w w4 := Below.trans (by go_grown) (hb.mono (by go_size)); have hzw4 := hBw4.size; have hsw40 : w.heap.size < w4.heap.size := (by have := hb.size; (try simp at this); omega); have hsw41 : w.heap.size + 1 < w4.heap.size := (by have := hb.size; (try simp at this); omega); have hsw42 : w.heap.size + 2 < w4.heap.size := (by have := hb.size; (try simp at this); omega)) | (go_at_call 45; refine (c_divU _ _ _ (by omega) (by omega)).mono ?_; rintro e w' ⟨rfl, kk, rfl⟩) | (go_at_call 39; refine (c_mul64 _ _ _ (by omega) (by omega) (by omega) (by omega)).mono ?_; rintro e w' ⟨rfl, rfl⟩) | (go_at_call 47; refine (c_div64 _ _ _ _ (by omega) (by omega) (by omega) (by omega) (by omega)).mono ?_; rintro e w' ⟨rfl, kk, rfl⟩) | simp only [add64_0 x0 y0 b3 b4 b7 b8] | simp only [add64 x1 y1 c b1 b2 b5 b6 b11 b12])
  refine bodyPost_ret (v := .tuple #[.agg #[.int .i64 0, .int .i64 0], .bool false]) (by simp [results, Try.results21, go_sem, hc, *]) rfl ⟨rfl, ?_⟩
  repeat' (first | (with_reducible exact Below.refl _ _) | (with_reducible assumption) | (with_reducible refine below_drewN ?_ _) | (with_reducible refine Below.drew ?_) | (with_reducible refine Below.alloc ?_ ?_ _) | (with_reducible refine Below.setCell ?_ ?_ _) | go_size)


/-- The sum, exactly: what the steps make of two fractions in lowest terms. -/
theorem add_plain (n1 d1 n2 d2 g e1 e2 k f2 S num : Int) (p1 : 0 ≤ n1) (p3 : 1 ≤ d1) (p5 : 0 ≤ n2) (p7 : 1 ≤ d2) (q1 : G d1 d2 = g) (q2 : d1 / g = e1) (q3 : d2 / g = e2)
    (hS : S = n1 * e2 + n2 * e1) (hk : G (S % g) g = k) (hf : d2 / k = f2) (hn : S / k = num) : num * (d1 * d2) = (n1 * d2 + n2 * d1) * (e1 * f2) ∧ 1 ≤ e1 * f2 := by
  have g1 : g ∣ d1 := by rw [← q1]; exact Int.gcd_dvd_left ..
  have g2 : g ∣ d2 := by rw [← q1]; exact Int.gcd_dvd_right ..
  have gp : 1 ≤ g := by rw [← q1]; exact G_pos d1 d2 (by omega)
  have k1 : k ∣ S % g := by rw [← hk]; exact Int.gcd_dvd_left ..
  have k2 : k ∣ g := by rw [← hk]; exact Int.gcd_dvd_right ..
  have kp : 1 ≤ k := by rw [← hk]; exact G_pos _ g (by omega)
  have kS : k ∣ S := by
    have e := Int.mul_ediv_add_emod S g
    rw [← e]
    exact Int.dvd_add (Int.dvd_mul_of_dvd_left k2) k1
  obtain ⟨a, rfl⟩ := g1
  obtain ⟨b, hb⟩ := g2
  obtain ⟨m, hm⟩ := k2
  obtain ⟨z, hz⟩ := kS
  rw [Int.mul_ediv_cancel_left _ (by omega)] at q2
  rw [hb, Int.mul_ediv_cancel_left _ (by omega)] at q3
  rw [hz, Int.mul_ediv_cancel_left _ (by omega)] at hn
  rw [hb, hm, Int.mul_assoc, Int.mul_ediv_cancel_left _ (by omega)] at hf
  subst q2 q3 hn hf
  refine ⟨?_, ?_⟩
  · grind
  · have a1 : 0 < a := by
      rcases Int.lt_or_le 0 a with h | h
      · exact h
      · have := Int.mul_nonpos_of_nonneg_of_nonpos (show 0 ≤ g by omega) h; omega
    have a2 : 0 < b := by
      rcases Int.lt_or_le 0 b with h | h
      · exact h
      · have := Int.mul_nonpos_of_nonneg_of_nonpos (show 0 ≤ g by omega) h; omega
    have a3 : 0 < m := by
      rcases Int.lt_or_le 0 m with h | h
      · exact h
      · have := Int.mul_nonpos_of_nonneg_of_nonpos (show 0 ≤ k by omega) h; omega
    have := Int.mul_pos a1 (Int.mul_pos a3 a2)
    omega

/-- What share.Add's answer is good for. -/
def AddOK (an ad bn bd sn sd : Int) (ob : Bool) : Prop :=
  ob = true → (1 ≤ ad ∧ 1 ≤ bd) ∧ 0 ≤ sn ∧ sn ≤ 9223372036854775807 ∧ 1 ≤ sd ∧ sd ≤ 9223372036854775807 ∧ sn * (ad * bd) = (an * bd + bn * ad) * sd
def AddPost (an ad bn bd : Int) (w : World) (e : Ending) (w' : World) : Prop :=
  ∃ sn sd ob, (e = .returned (.tuple #[.agg #[.int .i64 sn, .int .i64 sd], .bool ob]) ∧ Below w.heap.size w w') ∧ AddOK an ad bn bd sn sd ob

theorem split_mod (a b w : Int) (hw : 0 < w) (ha : 0 ≤ a) (hb : 0 ≤ b) (h : a + b < w * w) :
    (a % w + b % w) % w = (a + b) % w ∧ (a / w + b / w + (a % w + b % w) / w) % w = (a + b) / w := by
  have a1 := Int.mul_ediv_add_emod a w
  have b1 := Int.mul_ediv_add_emod b w
  have c1 := Int.mul_ediv_add_emod (a % w + b % w) w
  have c2 := Int.emod_nonneg (a % w + b % w) (show w ≠ 0 by omega)
  have c3 := Int.emod_lt_of_pos (a % w + b % w) hw
  have e : a + b = (a % w + b % w) % w + w * (a / w + b / w + (a % w + b % w) / w) := by rw [Int.mul_add, Int.mul_add]; omega
  have q : (a + b) / w = a / w + b / w + (a % w + b % w) / w := by rw [e, Int.add_mul_ediv_left _ _ (by omega), Int.ediv_eq_zero_of_lt c2 c3]; omega
  have q0 : 0 ≤ (a + b) / w := Int.ediv_nonneg (by omega) (by omega)
  have q1 : (a + b) / w < w := Int.ediv_lt_of_lt_mul hw h
  refine ⟨?_, ?_⟩
  · exact (Int.add_emod a b w).symm
  · rw [← q]; exact Int.emod_eq_of_lt q0 q1

set_option maxHeartbeats 1600000 in
set_option maxRecDepth 100000 in
theorem c_add (an ad bn bd : Int) (w : World) (h1 : 0 ≤ an) (h2 : an ≤ 9223372036854775807) (h3 : 1 ≤ ad) (h4 : ad ≤ 9223372036854775807) (h5 : 0 ≤ bn) (h6 : bn ≤ 9223372036854775807) (h7 : 1 ≤ bd) (h8 : bd ≤ 9223372036854775807) :
    Calls Try.prog 21 #[.agg #[.int .i64 an, .int .i64 ad], .agg #[.int .i64 bn, .int .i64 bd]] w (AddPost an ad bn bd w) := by
  have hka : ∀ w, Calls Try.prog 43 #[.agg #[.int .i64 an, .int .i64 ad]] w fun e w' => e = .returned (.bool true) ∧ Below w.heap.size w w' := fun w => by
    have := c_may an ad w; rwa [may_t an ad h1 h3] at this
  have hkb : ∀ w, Calls Try.prog 43 #[.agg #[.int .i64 bn, .int .i64 bd]] w fun e w' => e = .returned (.bool true) ∧ Below w.heap.size w w' := fun w => by
    have := c_may bn bd w; rwa [may_t bn bd h5 h7] at this
  have hl1 := fun w => c_lowest an ad w h1 h2 h3 h4
  have hl2 := fun w => c_lowest bn bd w h5 h6 h7 h8
  have ga := G_pos an ad (by omega)
  have gb := G_pos bn bd (by omega)
  have p1 := div_bd an (G an ad) h1 ga
  have p3 := divG_pos an ad (by omega)
  have p4 := div_bd ad (G an ad) (by omega) ga
  have p5 := div_bd bn (G bn bd) h5 gb
  have p7 := divG_pos bn bd (by omega)
  have p8 := div_bd bd (G bn bd) (by omega) gb
  have ea : an / G an ad * ad = an * (ad / G an ad) := by
    obtain ⟨x, hx⟩ : G an ad ∣ an := Int.gcd_dvd_left ..
    obtain ⟨y, hy⟩ : G an ad ∣ ad := Int.gcd_dvd_right ..
    generalize G an ad = g at *
    subst hx hy
    rw [Int.mul_ediv_cancel_left _ (by omega), Int.mul_ediv_cancel_left _ (by omega)]
    grind
  have eb : bn / G bn bd * bd = bn * (bd / G bn bd) := by
    obtain ⟨x, hx⟩ : G bn bd ∣ bn := Int.gcd_dvd_left ..
    obtain ⟨y, hy⟩ : G bn bd ∣ bd := Int.gcd_dvd_right ..
    generalize G bn bd = g at *
    subst hx hy
    rw [Int.mul_ediv_cancel_left _ (by omega), Int.mul_ediv_cancel_left _ (by omega)]
    grind
  generalize an / G an ad = n1 at *
  generalize ad / G an ad = d1 at *
  generalize bn / G bn bd = n2 at *
  generalize bd / G bn bd = d2 at *
  have r1 := G_pos d1 d2 (by omega)
  have r2 := G_le d1 d2 (by omega)
  have r3 : 1 ≤ d1 / G d1 d2 := by
    have : d1 / G d1 d2 = d1 / G d2 d1 := by rw [show G d1 d2 = G d2 d1 from by unfold G; rw [Int.gcd_comm]]
    rw [this]; exact divG_pos d2 d1 (by omega)
  have r4 := div_bd d1 (G d1 d2) (by omega) r1
  have r5 := divG_pos d1 d2 (by omega)
  have r6 := div_bd d2 (G d1 d2) (by omega) r1
  generalize q1 : G d1 d2 = g at *
  generalize q2 : d1 / g = e1 at *
  generalize q3 : d2 / g = e2 at *
  have u1 : 0 ≤ n1 * e2 := Int.mul_nonneg (by omega) (by omega)
  have u2 : n1 * e2 ≤ 9223372036854775807 * 9223372036854775807 := Int.mul_le_mul (by omega) (by omega) (by omega) (by omega)
  have u3 : 0 ≤ n2 * e1 := Int.mul_nonneg (by omega) (by omega)
  have u4 : n2 * e1 ≤ 9223372036854775807 * 9223372036854775807 := Int.mul_le_mul (by omega) (by omega) (by omega) (by omega)
  obtain ⟨v1, v2⟩ := split_mod (n1 * e2) (n2 * e1) 18446744073709551616 (by decide) u1 u3 (by omega)
  have hS : n1 * e2 + n2 * e1 = n1 * e2 + n2 * e1 := rfl
  generalize hSS : n1 * e2 + n2 * e1 = S at *
  have s0 : 0 ≤ S := by omega
  have hmod : (S / 18446744073709551616 % g * 18446744073709551616 + S % 18446744073709551616) % g = S % g := by
    have e := Int.mul_ediv_add_emod S 18446744073709551616
    have e2 : S = S / 18446744073709551616 * 18446744073709551616 + S % 18446744073709551616 := by omega
    conv => rhs; rw [e2]
    rw [Int.add_emod, Int.mul_emod, Int.emod_emod, ← Int.mul_emod, ← Int.add_emod]
  have hfull : S / 18446744073709551616 * 18446744073709551616 + S % 18446744073709551616 = S := by omega
  have rr0 := Int.emod_nonneg S (show g ≠ 0 by omega)
  have kp := G_pos (S % g) g (by omega)
  have kle := G_le (S % g) g (by omega)
  have kd : G (S % g) g ∣ d2 := Int.dvd_trans (Int.gcd_dvd_right ..) (by rw [← q1]; exact Int.gcd_dvd_right ..)
  generalize hk : G (S % g) g = k at *
  have f1 : 1 ≤ d2 / k := by
    obtain ⟨z, rfl⟩ := kd
    rw [Int.mul_ediv_cancel_left _ (by omega)]
    rcases Int.lt_or_le 0 z with h | h
    · omega
    · have := Int.mul_nonpos_of_nonneg_of_nonpos (show 0 ≤ k by omega) h; omega
  have f3 := div_bd d2 k (by omega) kp
  have pl := add_plain n1 d1 n2 d2 g e1 e2 k (d2 / k) S (S / k) (by omega) (by omega) (by omega) (by omega) q1 q2 q3 hSS.symm hk rfl rfl
  generalize hf : d2 / k = f2 at *
  have t0 : 0 ≤ e1 * f2 := by omega
  have t1 : e1 * f2 ≤ 9223372036854775807 * 9223372036854775807 := Int.mul_le_mul (by omega) (by omega) (by omega) (by omega)
  have nn : 0 ≤ S / k := Int.ediv_nonneg s0 (by omega)
  have key := fun (res : Ending → World → Prop) => True
  generalize hT : e1 * f2 = T at *
  have fin (z1 : S / 18446744073709551616 < k) (z2 : T / 18446744073709551616 ≤ 0) (z3 : T % 18446744073709551616 ≤ 9223372036854775807) (z4 : S / k ≤ 9223372036854775807) : AddOK an ad bn bd (S / k) (T % 18446744073709551616) true := by
    intro _
    have hT' : T % 18446744073709551616 = T := by omega
    rw [hT']
    refine ⟨⟨h3, h7⟩, nn, z4, pl.2, by omega, ?_⟩
    have e := pl.1
    have hd : 0 < d1 * d2 := Int.mul_pos (by omega) (by omega)
    have : S / k * (ad * bd) * (d1 * d2) = (an * bd + bn * ad) * T * (d1 * d2) := by grind
    exact Int.eq_of_mul_eq_mul_right (by omega) this
  have no : AddOK an ad bn bd 0 0 false := fun h => by cases h
  by_cases z1 : S / 18446744073709551616 < k
  · by_cases z2 : T / 18446744073709551616 ≤ 0
    · by_cases z3 : T % 18446744073709551616 ≤ 9223372036854775807
      · by_cases z4 : S / k ≤ 9223372036854775807
        · exact (c_add_ok an ad bn bd n1 d1 n2 d2 g e1 e2 _ _ _ _ _ _ _ _ k f2 _ _ (S / k) w hka hkb hl1 hl2 (by omega) (by omega) (by omega) (by omega) (by omega) (by omega) (by omega) (by omega) q1 q2 q3 rfl rfl rfl rfl v1 rfl v2 hmod hk hf (by rw [hT]) (by rw [hT]) (by rw [hfull])
            (by omega) (by omega) (by omega) (by omega) (by omega) (by omega) (by omega) (by omega) (by omega) (by omega) rr0 (by omega) nn (by omega) (by omega) (by omega) (by omega) (by omega) (by omega) (by omega) (by omega) (by omega) (by omega) (by omega) (by omega) (by omega) (by omega) (by omega) (by omega) z1 z2 z3 z4).mono fun e w' h => ⟨_, _, _, h, fin z1 z2 z3 z4⟩
        · exact (c_add_n4 an ad bn bd n1 d1 n2 d2 g e1 e2 _ _ _ _ _ _ _ _ k f2 _ _ (S / k) w hka hkb hl1 hl2 (by omega) (by omega) (by omega) (by omega) (by omega) (by omega) (by omega) (by omega) q1 q2 q3 rfl rfl rfl rfl v1 rfl v2 hmod hk hf (by rw [hT]) (by rw [hT]) (by rw [hfull])
            (by omega) (by omega) (by omega) (by omega) (by omega) (by omega) (by omega) (by omega) (by omega) (by omega) rr0 (by omega) nn (by omega) (by omega) (by omega) (by omega) (by omega) (by omega) (by omega) (by omega) (by omega) (by omega) (by omega) (by omega) (by omega) (by omega) (by omega) (by omega) z1 z2 z3 (by omega)).mono fun e w' h => ⟨_, _, _, h, no⟩
      · exact (c_add_n3 an ad bn bd n1 d1 n2 d2 g e1 e2 _ _ _ _ _ _ _ _ k f2 _ _ (S / k) w hka hkb hl1 hl2 (by omega) (by omega) (by omega) (by omega) (by omega) (by omega) (by omega) (by omega) q1 q2 q3 rfl rfl rfl rfl v1 rfl v2 hmod hk hf (by rw [hT]) (by rw [hT]) (by rw [hfull])
            (by omega) (by omega) (by omega) (by omega) (by omega) (by omega) (by omega) (by omega) (by omega) (by omega) rr0 (by omega) nn (by omega) (by omega) (by omega) (by omega) (by omega) (by omega) (by omega) (by omega) (by omega) (by omega) (by omega) (by omega) (by omega) (by omega) (by omega) (by omega) z1 z2 (by omega)).mono fun e w' h => ⟨_, _, _, h, no⟩
    · exact (c_add_n2 an ad bn bd n1 d1 n2 d2 g e1 e2 _ _ _ _ _ _ _ _ k f2 _ _ (S / k) w hka hkb hl1 hl2 (by omega) (by omega) (by omega) (by omega) (by omega) (by omega) (by omega) (by omega) q1 q2 q3 rfl rfl rfl rfl v1 rfl v2 hmod hk hf (by rw [hT]) (by rw [hT]) (by rw [hfull])
            (by omega) (by omega) (by omega) (by omega) (by omega) (by omega) (by omega) (by omega) (by omega) (by omega) rr0 (by omega) nn (by omega) (by omega) (by omega) (by omega) (by omega) (by omega) (by omega) (by omega) (by omega) (by omega) (by omega) (by omega) (by omega) (by omega) (by omega) (by omega) z1 (by omega)).mono fun e w' h => ⟨_, _, _, h, no⟩
  · exact (c_add_n1 an ad bn bd n1 d1 n2 d2 g e1 e2 _ _ _ _ _ _ _ _ k f2 _ _ (S / k) w hka hkb hl1 hl2 (by omega) (by omega) (by omega) (by omega) (by omega) (by omega) (by omega) (by omega) q1 q2 q3 rfl rfl rfl rfl v1 rfl v2 hmod hk hf (by rw [hT]) (by rw [hT]) (by rw [hfull])
            (by omega) (by omega) (by omega) (by omega) (by omega) (by omega) (by omega) (by omega) (by omega) (by omega) rr0 (by omega) nn (by omega) (by omega) (by omega) (by omega) (by omega) (by omega) (by omega) (by omega) (by omega) (by omega) (by omega) (by omega) (by omega) (by omega) (by omega) (by omega) (by omega)).mono fun e w' h => ⟨_, _, _, h, no⟩

end Go.Proofs.Ytagdibogjlmgmaa
