/-
  The document's interest (supercargoref39): its walk.
-/
import Derived.Test.YtagdibogjlmgmaaA1
import Derived.Test.YtagdibogjlmgmaaRefNum
namespace Go.Proofs.Ytagdibogjlmgmaa
set_option linter.unusedVariables false
set_option linter.unusedSimpArgs false
open Go.RowKit

set_option maxHeartbeats 400000 in
theorem c_divR (a b : Int) (w : World) (ha : 0 ≤ a) (hb : 0 ≤ b) : Calls Try.prog 57 #[.int .i64 a, .int .i64 b] w fun e w' => e = .returned (.int .i64 (G a b)) ∧ w = w' := by
  go_enter Try.func57, Try.ntmps57
  go_wp2
  go_loop [0, 1] (fun x y => ∃ p q : Int, x = .int .i64 p ∧ y = .int .i64 q ∧ 0 ≤ p ∧ 0 ≤ q ∧ Int.gcd p q = Int.gcd a b) (fun _ y => (intOf y).toNat)
  case atStart => exact ⟨a, b, rfl, rfl, ha, hb, rfl⟩
  case round =>
    obtain ⟨p, q, rfl, rfl, hp, hq, hg⟩ := hrel
    by_cases h0 : q = 0
    · subst h0
      have hd : G a b = p := by unfold G; rw [← hg]; simp; omega
      go_wp2
      go_ret
      first | exact ⟨ret_i hd.symm, rfl⟩ | exact ⟨rfl, rfl⟩
    · have h1 : 0 < q := by omega
      have hgg : Int.gcd q (p % q) = Int.gcd a b := (gcd_step p q hp hq).trans hg
      have hlt := Int.emod_lt_of_pos p h1
      have hnn := Int.emod_nonneg p h0
      have H := Lib.hid hgg
      clear hgg hg
      go_wp2
      go_round
      case rel => exact ⟨q, p % q, rfl, rfl, by omega, hnn, H.out⟩
      case measure => simp [intOf]; omega

theorem fits_iff (a b : Int) (ha : 1 ≤ a) (hb : 0 ≤ b) : b ≤ 9223372036854775807 / a ↔ a * b ≤ 9223372036854775807 := by
  rw [Int.le_ediv_iff_mul_le (by omega), Int.mul_comm]
set_option maxHeartbeats 400000 in
theorem c_fits_t (a b : Int) (w : World) (ha : 0 ≤ a) (hb : 0 ≤ b) (h : a * b ≤ 9223372036854775807) : Calls Try.prog 58 #[.int .i64 a, .int .i64 b] w fun e w' => e = .returned (.bool true) ∧ w = w' := by
  by_cases h0 : a = 0
  · subst h0
    go_enter Try.func58, Try.ntmps58
    go_wp2
    go_ret
    exact ⟨rfl, rfl⟩
  · have h1 := (fits_iff a b (by omega) hb).2 h
    have h2 : (a == 0) = false := by simpa using h0
    have h3 := div_bd 9223372036854775807 a (by omega) (by omega)
    clear h
    go_enter Try.func58, Try.ntmps58
    go_wp2
    go_ret
    first | exact ⟨ret_b (decide_eq_true h1), rfl⟩ | exact ⟨rfl, rfl⟩
set_option maxHeartbeats 400000 in
theorem c_fits_f (a b : Int) (w : World) (ha : 0 ≤ a) (hb : 0 ≤ b) (h : 9223372036854775807 < a * b) : Calls Try.prog 58 #[.int .i64 a, .int .i64 b] w fun e w' => e = .returned (.bool false) ∧ w = w' := by
  have h0 : a ≠ 0 := by rintro rfl; simp at h
  have h1 : ¬ b ≤ 9223372036854775807 / a := fun k => by have := (fits_iff a b (by omega) hb).1 k; omega
  have h2 : (a == 0) = false := by simpa using h0
  have h3 := div_bd 9223372036854775807 a (by omega) (by omega)
  clear h
  go_enter Try.func58, Try.ntmps58
  go_wp2
  go_ret
  first | exact ⟨rfl, rfl⟩ | exact ⟨ret_b (decide_eq_false (by omega)), rfl⟩

set_option maxHeartbeats 400000 in
theorem c_isR (n : Int) (w : World) : Calls Try.prog 68 #[.int .i64 n] w fun e w' => e = .returned (.bool (decide (0 ≤ n ∧ n ≤ 1048576))) ∧ w = w' := by
  go_enter Try.func68, Try.ntmps68
  go_wp2
  all_goals (go_ret; exact ⟨ret_b (Bool.eq_iff_iff.2 (by simp; try omega)), rfl⟩)

set_option maxHeartbeats 800000 in
theorem c_rightR (s n d t base : Int) (w : World) : Calls Try.prog 56 #[.int .i64 s, .agg #[.int .i64 n, .int .i64 d], .int .i64 t, .int .i64 base] w fun e w' => e = .returned (.bool (validB s n d t base)) ∧ Below w.heap.size w w' := by
  have hi := c_isR t
  cases h : decide (0 ≤ t ∧ t ≤ 1048576)
  all_goals
    rw [h] at hi
    have HI := Lib.hid hi
    have H := Lib.hid h
    clear hi h
    go_enter Try.func56, Try.ntmps56
    go_wp2_with (go_at_call 68; refine (HI.out _).mono ?_; rintro e w' ⟨rfl, rfl⟩)
    all_goals
      go_ret
      refine ⟨ret_b ?_, (Below.refl _ _).alloc (Nat.le_refl _) _⟩
      have hh := H.out
      unfold validB
      apply Bool.eq_iff_iff.2
      simp at *
      try omega

set_option maxHeartbeats 800000 in
theorem c_interestR_f (s n d t base : Int) (w : World) (hv : validB s n d t base = false) : Calls Try.prog 42 #[.int .i64 s, .agg #[.int .i64 n, .int .i64 d], .int .i64 t, .int .i64 base] w fun e w' => e = .returned (.tuple #[.agg #[.int .i64 0, .int .i64 0], .bool false]) ∧ Below w.heap.size w w' := by
  have hr := c_rightR s n d t base
  rw [hv] at hr
  have HR := Lib.hid hr
  clear hr hv
  go_enter Try.func42, Try.ntmps42
  go_wp2_with (go_at_call 56; refine (HR.out _).mono ?_; rintro e w1 ⟨rfl, hb⟩; obtain ⟨hc, hf⟩ := bcell hb; have hBw1 : Below w.heap.size w w1 := Below.trans (by go_grown) (hb.mono (by go_size)); have hzw1 := hBw1.size; have hsw10 : w.heap.size < w1.heap.size := (by have := hb.size; (try simp at this); omega); have hsw11 : w.heap.size + 1 < w1.heap.size := (by have := hb.size; (try simp at this); omega))
  refine bodyPost_ret (v := .tuple #[.agg #[.int .i64 0, .int .i64 0], .bool false]) (by simp [results, Try.results42, go_sem, hc, *]) rfl ⟨rfl, ?_⟩
  repeat' (first | (with_reducible exact Below.refl _ _) | (with_reducible assumption) | (with_reducible refine below_drewN ?_ _) | (with_reducible refine Below.drew ?_) | (with_reducible refine Below.alloc ?_ ?_ _) | (with_reducible refine Below.setCell ?_ ?_ _) | go_size)

theorem valid_bds {s n d t base : Int} (h : validB s n d t base = true) : 0 ≤ s ∧ s ≤ 1099511627776 ∧ 0 ≤ n ∧ n ≤ 1048576 ∧ 1 ≤ d ∧ d ≤ 1048576 ∧ 0 ≤ t ∧ t ≤ 1048576 ∧ 360 ≤ base ∧ base ≤ 365 := by
  unfold validB at h
  simp only [decide_eq_true_eq] at h
  omega

/-- What lies in memory while the pairs are reduced. -/
structure RMem (w wr : World) (Bn Bd : Nat) (n0 n1 n2 d0 d1 : Int) : Prop where
  below : Below w.heap.size w wr
  hn : Blk wr Bn 2 #[.int .i64 n0, .int .i64 n1, .int .i64 n2]
  hd : Blk wr Bd 2 #[.int .i64 d0, .int .i64 d1]
  hr : Blk wr (w.heap.size + 1) 23 #[.int .i64 0, .int .i64 0]

set_option maxHeartbeats 6400000 in
set_option maxRecDepth 100000 in
theorem c_interestR_t (s n d t base : Int) (w : World) (hv : validB s n d t base = true) : Calls Try.prog 42 #[.int .i64 s, .agg #[.int .i64 n, .int .i64 d], .int .i64 t, .int .i64 base] w fun e w' => e = .returned (.tuple #[.agg #[.int .i64 (iN (intB s n d t base) s n d t base), .int .i64 (iD (intB s n d t base) s n d t base)], .bool (intB s n d t base)]) ∧ Below w.heap.size w w' := by
  have hr := c_rightR s n d t base
  rw [hv] at hr
  have HR := Lib.hid hr
  have HV := Lib.hid hv
  clear hr hv
  go_enter Try.func42, Try.ntmps42
  go_upto_region 3 with (go_at_call 56; refine (HR.out _).mono ?_; rintro e w1 ⟨rfl, hb⟩; obtain ⟨hc, hf⟩ := bcell hb; have hBw1 : Below w.heap.size w w1 := Below.trans (by go_grown) (hb.mono (by go_size)); have hzw1 := hBw1.size; have hsw10 : w.heap.size < w1.heap.size := (by have := hb.size; (try simp at this); omega); have hsw11 : w.heap.size + 1 < w1.heap.size := (by have := hb.size; (try simp at this); omega))
  go_cut [10, 11] (fun x y wx => ∃ Bn Bd : Nat, x = .slice (some ⟨Bn, 0, none⟩) 3 3 ∧ y = .slice (some ⟨Bd, 0, none⟩) 2 2 ∧ Bn ≠ Bd ∧ w.heap.size + 1 < Bn ∧ w.heap.size + 1 < Bd ∧ RMem w wx Bn Bd s n t d base)
  case first =>
    go_region
    all_goals
      go_wp2
      go_meet
      have hres : Blk w1 (w.heap.size + 1) 23 #[.int .i64 0, .int .i64 0] := (Blk.at _ _ _ (by simp)).below hb (by simp)
      first | exact ⟨_, _, rfl, rfl, by omega, by omega, by omega, (by go_grown), (Blk.at _ _ _ (by simp)).drew, ((Blk.at _ _ _ (by simp)).alloc _).drew, ((hres.alloc _).alloc _).drew⟩ | exact ⟨_, _, rfl, rfl, by omega, by omega, by omega, (by go_grown), ((Blk.at _ _ _ (by simp)).alloc _).drew, (Blk.at _ _ _ (by simp)).drew, ((hres.alloc _).alloc _).drew⟩
  case rest =>
    obtain ⟨Bn, Bd, rfl, rfl, hne, hn1, hd1, hm⟩ := hcut
    go_wp2
    have hi := Inv.start HV.out
    obtain ⟨y0, y1, y2, y3, y4, y5, y6, y7, y8, y9⟩ := valid_bds HV.out
    go_loopw [12] (fun x wr => ∃ (i : Nat) (n0 n1 n2 d0 d1 : Int), x = .int .i64 i ∧ i ≤ 3 ∧ Inv s n t d base i 0 n0 n1 n2 d0 d1 ∧ RMem w wr Bn Bd n0 n1 n2 d0 d1) (fun x _ => (3 - intOf x).toNat)
    case atStart => exact ⟨0, s, n, t, d, base, rfl, by omega, hi, hm⟩
    case round =>
      obtain ⟨i, n0, n1, n2, d0, d1, rfl, r1, r2, r3⟩ := hrel
      by_cases hi3 : i < 3
      · obtain rfl | rfl | rfl : i = 0 ∨ i = 1 ∨ i = 2 := by omega
        · go_wp2
          go_loopw [13] (fun x wr2 => ∃ (k : Nat) (m0 m1 m2 e0 e1 : Int), x = .int .i64 k ∧ k ≤ 2 ∧ Inv s n t d base 0 k m0 m1 m2 e0 e1 ∧ RMem w wr2 Bn Bd m0 m1 m2 e0 e1) (fun x _ => (2 - intOf x).toNat)
          case atStart => exact ⟨0, n0, n1, n2, d0, d1, rfl, by omega, r2, r3⟩
          case round =>
            obtain ⟨k, m0, m1, m2, e0, e1, rfl, q1, q2, q3⟩ := hrel
            have f0 := q3.hn.cell 0 rfl
            have f1 := q3.hn.cell 1 rfl
            have f2 := q3.hn.cell 2 rfl
            have f3 := q3.hd.cell 0 rfl
            have f4 := q3.hd.cell 1 rfl
            have f5 := q3.hn.free 0
            have f6 := q3.hd.free 0
            have f7 := q3.hd.free 1
            have u0 := q2.a0
            have u1 := q2.a1
            have u2 := q2.a2
            have u3 := q2.b0
            have u4 := q2.b1
            by_cases hk2 : k < 2
            · obtain rfl | rfl : k = 0 ∨ k = 1 := by omega
              · have gp := G_pos m0 e0 (by omega)
                have v1 := div_bd m0 (G m0 e0) (by omega) gp
                have v2 := div_bd e0 (G m0 e0) (by omega) gp
                by_cases g1 : 1 < G m0 e0
                · go_wp2
                  go_quiet ((go_at_call 57; exact quiet_left0 (c_divR _ _ _ (by omega) (by omega))))
                  go_wp2
                  go_roundw
                  case rel => exact ⟨1, (m0 / G m0 e0), m1, m2, (e0 / G m0 e0), e1, rfl, by omega, q2.s00 rfl, ⟨by have hbl := q3.below; repeat' (first | (with_reducible exact Below.refl _ _) | (with_reducible assumption) | (with_reducible refine below_drewN ?_ _) | (with_reducible refine Below.drew ?_) | (with_reducible refine Below.alloc ?_ ?_ _) | (with_reducible refine Below.setCell ?_ ?_ _) | go_size), (((q3.hn.drewN _).set 0 _).far (p := ⟨Bd, 0, none⟩) hne _), (((q3.hd.drewN _).far (p := ⟨Bn, 0, none⟩) (Ne.symm hne) _).set 0 _), (((q3.hr.drewN _).far (p := ⟨Bn, 0, none⟩) (by simp; omega) _).far (p := ⟨Bd, 0, none⟩) (by simp; omega) _)⟩⟩
                  case measure => simp [intOf]
                · have hG : G m0 e0 = 1 := by omega
                  have HG := Lib.hid hG
                  clear hG
                  go_wp2
                  go_quiet ((go_at_call 57; exact quiet_left0 (c_divR _ _ _ (by omega) (by omega))))
                  go_wp2
                  go_roundw
                  case rel => first | exact ⟨1, m0, m1, m2, e0, e1, rfl, by omega, by simpa using q2.s00 HG.out, ⟨below_drewN q3.below _, q3.hn.drewN _, q3.hd.drewN _, q3.hr.drewN _⟩⟩ | ((repeat apply Exists.intro); exact ⟨⟨1, m0, m1, m2, e0, e1, rfl, by omega, by simpa using q2.s00 HG.out, ⟨below_drewN q3.below _, q3.hn.drewN _, q3.hd.drewN _, q3.hr.drewN _⟩⟩, rfl⟩)
                  case measure => simp [intOf]
              · have gp := G_pos m0 e1 (by omega)
                have v1 := div_bd m0 (G m0 e1) (by omega) gp
                have v2 := div_bd e1 (G m0 e1) (by omega) gp
                by_cases g1 : 1 < G m0 e1
                · go_wp2
                  go_quiet ((go_at_call 57; exact quiet_left0 (c_divR _ _ _ (by omega) (by omega))))
                  go_wp2
                  go_roundw
                  case rel => exact ⟨2, (m0 / G m0 e1), m1, m2, e0, (e1 / G m0 e1), rfl, by omega, q2.s01 rfl, ⟨by have hbl := q3.below; repeat' (first | (with_reducible exact Below.refl _ _) | (with_reducible assumption) | (with_reducible refine below_drewN ?_ _) | (with_reducible refine Below.drew ?_) | (with_reducible refine Below.alloc ?_ ?_ _) | (with_reducible refine Below.setCell ?_ ?_ _) | go_size), (((q3.hn.drewN _).set 0 _).far (p := ⟨Bd, 1, none⟩) hne _), (((q3.hd.drewN _).far (p := ⟨Bn, 0, none⟩) (Ne.symm hne) _).set 1 _), (((q3.hr.drewN _).far (p := ⟨Bn, 0, none⟩) (by simp; omega) _).far (p := ⟨Bd, 1, none⟩) (by simp; omega) _)⟩⟩
                  case measure => simp [intOf]
                · have hG : G m0 e1 = 1 := by omega
                  have HG := Lib.hid hG
                  clear hG
                  go_wp2
                  go_quiet ((go_at_call 57; exact quiet_left0 (c_divR _ _ _ (by omega) (by omega))))
                  go_wp2
                  go_roundw
                  case rel => first | exact ⟨2, m0, m1, m2, e0, e1, rfl, by omega, by simpa using q2.s01 HG.out, ⟨below_drewN q3.below _, q3.hn.drewN _, q3.hd.drewN _, q3.hr.drewN _⟩⟩ | ((repeat apply Exists.intro); exact ⟨⟨2, m0, m1, m2, e0, e1, rfl, by omega, by simpa using q2.s01 HG.out, ⟨below_drewN q3.below _, q3.hn.drewN _, q3.hd.drewN _, q3.hr.drewN _⟩⟩, rfl⟩)
                  case measure => simp [intOf]
            · obtain rfl : k = 2 := by omega
              go_wp2
              go_roundw
              case rel => exact ⟨1, m0, m1, m2, e0, e1, rfl, by omega, q2.next, q3⟩
              case measure => simp [intOf]
        · go_wp2
          go_loopw [13] (fun x wr2 => ∃ (k : Nat) (m0 m1 m2 e0 e1 : Int), x = .int .i64 k ∧ k ≤ 2 ∧ Inv s n t d base 1 k m0 m1 m2 e0 e1 ∧ RMem w wr2 Bn Bd m0 m1 m2 e0 e1) (fun x _ => (2 - intOf x).toNat)
          case atStart => exact ⟨0, n0, n1, n2, d0, d1, rfl, by omega, r2, r3⟩
          case round =>
            obtain ⟨k, m0, m1, m2, e0, e1, rfl, q1, q2, q3⟩ := hrel
            have f0 := q3.hn.cell 0 rfl
            have f1 := q3.hn.cell 1 rfl
            have f2 := q3.hn.cell 2 rfl
            have f3 := q3.hd.cell 0 rfl
            have f4 := q3.hd.cell 1 rfl
            have f5 := q3.hn.free 1
            have f6 := q3.hd.free 0
            have f7 := q3.hd.free 1
            have u0 := q2.a0
            have u1 := q2.a1
            have u2 := q2.a2
            have u3 := q2.b0
            have u4 := q2.b1
            by_cases hk2 : k < 2
            · obtain rfl | rfl : k = 0 ∨ k = 1 := by omega
              · have gp := G_pos m1 e0 (by omega)
                have v1 := div_bd m1 (G m1 e0) (by omega) gp
                have v2 := div_bd e0 (G m1 e0) (by omega) gp
                by_cases g1 : 1 < G m1 e0
                · go_wp2
                  go_quiet ((go_at_call 57; exact quiet_left0 (c_divR _ _ _ (by omega) (by omega))))
                  go_wp2
                  go_roundw
                  case rel => exact ⟨1, m0, (m1 / G m1 e0), m2, (e0 / G m1 e0), e1, rfl, by omega, q2.s10 rfl, ⟨by have hbl := q3.below; repeat' (first | (with_reducible exact Below.refl _ _) | (with_reducible assumption) | (with_reducible refine below_drewN ?_ _) | (with_reducible refine Below.drew ?_) | (with_reducible refine Below.alloc ?_ ?_ _) | (with_reducible refine Below.setCell ?_ ?_ _) | go_size), (((q3.hn.drewN _).set 1 _).far (p := ⟨Bd, 0, none⟩) hne _), (((q3.hd.drewN _).far (p := ⟨Bn, 1, none⟩) (Ne.symm hne) _).set 0 _), (((q3.hr.drewN _).far (p := ⟨Bn, 1, none⟩) (by simp; omega) _).far (p := ⟨Bd, 0, none⟩) (by simp; omega) _)⟩⟩
                  case measure => simp [intOf]
                · have hG : G m1 e0 = 1 := by omega
                  have HG := Lib.hid hG
                  clear hG
                  go_wp2
                  go_quiet ((go_at_call 57; exact quiet_left0 (c_divR _ _ _ (by omega) (by omega))))
                  go_wp2
                  go_roundw
                  case rel => first | exact ⟨1, m0, m1, m2, e0, e1, rfl, by omega, by simpa using q2.s10 HG.out, ⟨below_drewN q3.below _, q3.hn.drewN _, q3.hd.drewN _, q3.hr.drewN _⟩⟩ | ((repeat apply Exists.intro); exact ⟨⟨1, m0, m1, m2, e0, e1, rfl, by omega, by simpa using q2.s10 HG.out, ⟨below_drewN q3.below _, q3.hn.drewN _, q3.hd.drewN _, q3.hr.drewN _⟩⟩, rfl⟩)
                  case measure => simp [intOf]
              · have gp := G_pos m1 e1 (by omega)
                have v1 := div_bd m1 (G m1 e1) (by omega) gp
                have v2 := div_bd e1 (G m1 e1) (by omega) gp
                by_cases g1 : 1 < G m1 e1
                · go_wp2
                  go_quiet ((go_at_call 57; exact quiet_left0 (c_divR _ _ _ (by omega) (by omega))))
                  go_wp2
                  go_roundw
                  case rel => exact ⟨2, m0, (m1 / G m1 e1), m2, e0, (e1 / G m1 e1), rfl, by omega, q2.s11 rfl, ⟨by have hbl := q3.below; repeat' (first | (with_reducible exact Below.refl _ _) | (with_reducible assumption) | (with_reducible refine below_drewN ?_ _) | (with_reducible refine Below.drew ?_) | (with_reducible refine Below.alloc ?_ ?_ _) | (with_reducible refine Below.setCell ?_ ?_ _) | go_size), (((q3.hn.drewN _).set 1 _).far (p := ⟨Bd, 1, none⟩) hne _), (((q3.hd.drewN _).far (p := ⟨Bn, 1, none⟩) (Ne.symm hne) _).set 1 _), (((q3.hr.drewN _).far (p := ⟨Bn, 1, none⟩) (by simp; omega) _).far (p := ⟨Bd, 1, none⟩) (by simp; omega) _)⟩⟩
                  case measure => simp [intOf]
                · have hG : G m1 e1 = 1 := by omega
                  have HG := Lib.hid hG
                  clear hG
                  go_wp2
                  go_quiet ((go_at_call 57; exact quiet_left0 (c_divR _ _ _ (by omega) (by omega))))
                  go_wp2
                  go_roundw
                  case rel => first | exact ⟨2, m0, m1, m2, e0, e1, rfl, by omega, by simpa using q2.s11 HG.out, ⟨below_drewN q3.below _, q3.hn.drewN _, q3.hd.drewN _, q3.hr.drewN _⟩⟩ | ((repeat apply Exists.intro); exact ⟨⟨2, m0, m1, m2, e0, e1, rfl, by omega, by simpa using q2.s11 HG.out, ⟨below_drewN q3.below _, q3.hn.drewN _, q3.hd.drewN _, q3.hr.drewN _⟩⟩, rfl⟩)
                  case measure => simp [intOf]
            · obtain rfl : k = 2 := by omega
              go_wp2
              go_roundw
              case rel => exact ⟨2, m0, m1, m2, e0, e1, rfl, by omega, q2.next, q3⟩
              case measure => simp [intOf]
        · go_wp2
          go_loopw [13] (fun x wr2 => ∃ (k : Nat) (m0 m1 m2 e0 e1 : Int), x = .int .i64 k ∧ k ≤ 2 ∧ Inv s n t d base 2 k m0 m1 m2 e0 e1 ∧ RMem w wr2 Bn Bd m0 m1 m2 e0 e1) (fun x _ => (2 - intOf x).toNat)
          case atStart => exact ⟨0, n0, n1, n2, d0, d1, rfl, by omega, r2, r3⟩
          case round =>
            obtain ⟨k, m0, m1, m2, e0, e1, rfl, q1, q2, q3⟩ := hrel
            have f0 := q3.hn.cell 0 rfl
            have f1 := q3.hn.cell 1 rfl
            have f2 := q3.hn.cell 2 rfl
            have f3 := q3.hd.cell 0 rfl
            have f4 := q3.hd.cell 1 rfl
            have f5 := q3.hn.free 2
            have f6 := q3.hd.free 0
            have f7 := q3.hd.free 1
            have u0 := q2.a0
            have u1 := q2.a1
            have u2 := q2.a2
            have u3 := q2.b0
            have u4 := q2.b1
            by_cases hk2 : k < 2
            · obtain rfl | rfl : k = 0 ∨ k = 1 := by omega
              · have gp := G_pos m2 e0 (by omega)
                have v1 := div_bd m2 (G m2 e0) (by omega) gp
                have v2 := div_bd e0 (G m2 e0) (by omega) gp
                by_cases g1 : 1 < G m2 e0
                · go_wp2
                  go_quiet ((go_at_call 57; exact quiet_left0 (c_divR _ _ _ (by omega) (by omega))))
                  go_wp2
                  go_roundw
                  case rel => exact ⟨1, m0, m1, (m2 / G m2 e0), (e0 / G m2 e0), e1, rfl, by omega, q2.s20 rfl, ⟨by have hbl := q3.below; repeat' (first | (with_reducible exact Below.refl _ _) | (with_reducible assumption) | (with_reducible refine below_drewN ?_ _) | (with_reducible refine Below.drew ?_) | (with_reducible refine Below.alloc ?_ ?_ _) | (with_reducible refine Below.setCell ?_ ?_ _) | go_size), (((q3.hn.drewN _).set 2 _).far (p := ⟨Bd, 0, none⟩) hne _), (((q3.hd.drewN _).far (p := ⟨Bn, 2, none⟩) (Ne.symm hne) _).set 0 _), (((q3.hr.drewN _).far (p := ⟨Bn, 2, none⟩) (by simp; omega) _).far (p := ⟨Bd, 0, none⟩) (by simp; omega) _)⟩⟩
                  case measure => simp [intOf]
                · have hG : G m2 e0 = 1 := by omega
                  have HG := Lib.hid hG
                  clear hG
                  go_wp2
                  go_quiet ((go_at_call 57; exact quiet_left0 (c_divR _ _ _ (by omega) (by omega))))
                  go_wp2
                  go_roundw
                  case rel => first | exact ⟨1, m0, m1, m2, e0, e1, rfl, by omega, by simpa using q2.s20 HG.out, ⟨below_drewN q3.below _, q3.hn.drewN _, q3.hd.drewN _, q3.hr.drewN _⟩⟩ | ((repeat apply Exists.intro); exact ⟨⟨1, m0, m1, m2, e0, e1, rfl, by omega, by simpa using q2.s20 HG.out, ⟨below_drewN q3.below _, q3.hn.drewN _, q3.hd.drewN _, q3.hr.drewN _⟩⟩, rfl⟩)
                  case measure => simp [intOf]
              · have gp := G_pos m2 e1 (by omega)
                have v1 := div_bd m2 (G m2 e1) (by omega) gp
                have v2 := div_bd e1 (G m2 e1) (by omega) gp
                by_cases g1 : 1 < G m2 e1
                · go_wp2
                  go_quiet ((go_at_call 57; exact quiet_left0 (c_divR _ _ _ (by omega) (by omega))))
                  go_wp2
                  go_roundw
                  case rel => exact ⟨2, m0, m1, (m2 / G m2 e1), e0, (e1 / G m2 e1), rfl, by omega, q2.s21 rfl, ⟨by have hbl := q3.below; repeat' (first | (with_reducible exact Below.refl _ _) | (with_reducible assumption) | (with_reducible refine below_drewN ?_ _) | (with_reducible refine Below.drew ?_) | (with_reducible refine Below.alloc ?_ ?_ _) | (with_reducible refine Below.setCell ?_ ?_ _) | go_size), (((q3.hn.drewN _).set 2 _).far (p := ⟨Bd, 1, none⟩) hne _), (((q3.hd.drewN _).far (p := ⟨Bn, 2, none⟩) (Ne.symm hne) _).set 1 _), (((q3.hr.drewN _).far (p := ⟨Bn, 2, none⟩) (by simp; omega) _).far (p := ⟨Bd, 1, none⟩) (by simp; omega) _)⟩⟩
                  case measure => simp [intOf]
                · have hG : G m2 e1 = 1 := by omega
                  have HG := Lib.hid hG
                  clear hG
                  go_wp2
                  go_quiet ((go_at_call 57; exact quiet_left0 (c_divR _ _ _ (by omega) (by omega))))
                  go_wp2
                  go_roundw
                  case rel => first | exact ⟨2, m0, m1, m2, e0, e1, rfl, by omega, by simpa using q2.s21 HG.out, ⟨below_drewN q3.below _, q3.hn.drewN _, q3.hd.drewN _, q3.hr.drewN _⟩⟩ | ((repeat apply Exists.intro); exact ⟨⟨2, m0, m1, m2, e0, e1, rfl, by omega, by simpa using q2.s21 HG.out, ⟨below_drewN q3.below _, q3.hn.drewN _, q3.hd.drewN _, q3.hr.drewN _⟩⟩, rfl⟩)
                  case measure => simp [intOf]
            · obtain rfl : k = 2 := by omega
              go_wp2
              go_roundw
              case rel => exact ⟨3, m0, m1, m2, e0, e1, rfl, by omega, q2.next, q3⟩
              case measure => simp [intOf]
      · obtain rfl : i = 3 := by omega
        obtain ⟨z1, z2⟩ := r2.done
        have f0 := r3.hn.cell 0 rfl
        have f1 := r3.hn.cell 1 rfl
        have f2 := r3.hn.cell 2 rfl
        have f3 := r3.hd.cell 0 rfl
        have f4 := r3.hd.cell 1 rfl
        have f5 := r3.hr.cell 0 rfl
        have f6 := r3.hr.cell 1 rfl
        have f7 := r3.hr.free 0
        have f8 := r3.hr.free 1
        have g0 := r3.hn.lt
        have g1 := r3.hd.lt
        have g2 := r3.hr.lt
        have hbl := r3.below
        have hsz := hbl.size
        have u0 := r2.a0
        have u1 := r2.a1
        have u2 := r2.a2
        have u3 := r2.b0
        have u4 := r2.b1
        have x1 : n0 * n1 ≤ 1099511627776 * 1048576 := Int.mul_le_mul (by omega) (by omega) (by omega) (by omega)
        have x2 : 0 ≤ n0 * n1 := Int.mul_nonneg (by omega) (by omega)
        have x3 : 0 ≤ n0 * n1 * n2 := Int.mul_nonneg x2 (by omega)
        have x4 : d0 * d1 ≤ 1048576 * 365 := Int.mul_le_mul (by omega) (by omega) (by omega) (by omega)
        have x5 : 0 ≤ d0 * d1 := Int.mul_nonneg (by omega) (by omega)
        have k0 : IntKind.i64.wrap n0 = n0 := IntWalk.i64_in _ (by omega)
        have k1 : IntKind.i64.wrap (n0 * n1) = n0 * n1 := IntWalk.i64_in _ (by omega)
        have k3 : IntKind.i64.wrap d0 = d0 := IntWalk.i64_in _ (by omega)
        have k4 : IntKind.i64.wrap (d0 * d1) = d0 * d1 := IntWalk.i64_in _ (by omega)
        have Z1 := Lib.hid z1
        have Z2 := Lib.hid z2
        clear z1 z2
        by_cases hP : n0 * n1 * n2 ≤ 9223372036854775807
        · have k2 : IntKind.i64.wrap (n0 * n1 * n2) = n0 * n1 * n2 := IntWalk.i64_in _ (by omega)
          go_wp2
          refine wp_loop_rounds 4 ?_
          rw [rounds_succ]
          go_wp2
          go_quiet (first | (go_at_call 58; exact quiet_left1 (c_fits_t _ _ _ (by omega) (by omega) (by omega))) | (go_at_call 58; exact quiet_left0 (c_fits_t _ _ _ (by omega) (by omega) (by omega))))
          go_wp2
          go_region
          go_wp2
          rw [rounds_succ]
          go_wp2
          go_quiet (first | (go_at_call 58; exact quiet_left1 (c_fits_t _ _ _ (by omega) (by omega) (by omega))) | (go_at_call 58; exact quiet_left0 (c_fits_t _ _ _ (by omega) (by omega) (by omega))))
          go_wp2
          go_region
          go_wp2
          rw [rounds_succ]
          go_wp2
          go_quiet (first | (go_at_call 58; exact quiet_left1 (c_fits_t _ _ _ (by omega) (by omega) (by omega))) | (go_at_call 58; exact quiet_left0 (c_fits_t _ _ _ (by omega) (by omega) (by omega))))
          go_wp2
          go_region
          go_wp2
          rw [rounds_succ]
          go_wp2
          refine wp_loop_rounds 3 ?_
          rw [rounds_succ]
          go_wp2
          go_region
          go_wp2
          rw [rounds_succ]
          go_wp2
          go_region
          go_wp2
          by_cases hz : n0 * n1 * n2 = 0
          · have hz' : (n0 * n1 * n2 == 0) = true := by simpa using hz
            have HZ := Lib.hid hz
            clear hz
            rw [rounds_succ]
            go_wp2
            refine bodyPost_ret (v := .tuple #[.agg #[.int .i64 (n0 * n1 * n2), .int .i64 1], .bool true]) (by simp [results, Try.results42, go_sem, f5, f6, f7, f8, g2]) rfl ⟨?_, ?_⟩
            · have hb : intB s n d t base = true := by unfold intB; rw [HV.out, Z1.out]; simpa using hP
              rw [hb]
              have hzz : s = 0 ∨ n = 0 ∨ t = 0 := by
                rcases Int.mul_eq_zero.1 HZ.out with h | h
                · rcases Int.mul_eq_zero.1 h with h | h
                  · exact .inl (r2.z0 h)
                  · exact .inr (.inl (r2.z1 h))
                · exact .inr (.inr (r2.z2 h))
              rw [iN_true, iD_true, (int_zero HV.out hzz).1, (int_zero HV.out hzz).2, HZ.out]
            · repeat' (first | (with_reducible exact Below.refl _ _) | (with_reducible assumption) | (with_reducible refine below_drewN ?_ _) | (with_reducible refine Below.drew ?_) | (with_reducible refine Below.alloc ?_ ?_ _) | (with_reducible refine Below.setCell ?_ ?_ _) | go_size)
          · have hz' : (n0 * n1 * n2 == 0) = false := by simpa using hz
            clear hz
            rw [rounds_succ]
            go_wp2
            refine bodyPost_ret (v := .tuple #[.agg #[.int .i64 (n0 * n1 * n2), .int .i64 (d0 * d1)], .bool true]) (by simp [results, Try.results42, go_sem, f5, f6, f7, f8, g2]) rfl ⟨?_, ?_⟩
            · have hb : intB s n d t base = true := by unfold intB; rw [HV.out, Z1.out]; simpa using hP
              rw [hb]
              rw [iN_true, iD_true, Z1.out, Z2.out]
            · repeat' (first | (with_reducible exact Below.refl _ _) | (with_reducible assumption) | (with_reducible refine below_drewN ?_ _) | (with_reducible refine Below.drew ?_) | (with_reducible refine Below.alloc ?_ ?_ _) | (with_reducible refine Below.setCell ?_ ?_ _) | go_size)
        · have nz : n0 * n1 * n2 ≠ 0 := by omega
          have e0 : (n0 == 0) = false := by
            simp; rintro rfl; simp at nz
          have e1 : (n1 == 0) = false := by
            simp; rintro rfl; simp at nz
          have e2 : (n2 == 0) = false := by
            simp; rintro rfl; simp at nz
          clear nz
          go_wp2
          refine wp_loop_rounds 4 ?_
          rw [rounds_succ]
          go_wp2
          go_quiet (first | (go_at_call 58; exact quiet_left1 (c_fits_t _ _ _ (by omega) (by omega) (by omega))) | (go_at_call 58; exact quiet_left0 (c_fits_t _ _ _ (by omega) (by omega) (by omega))))
          go_wp2
          go_region
          go_wp2
          rw [rounds_succ]
          go_wp2
          go_quiet (first | (go_at_call 58; exact quiet_left1 (c_fits_t _ _ _ (by omega) (by omega) (by omega))) | (go_at_call 58; exact quiet_left0 (c_fits_t _ _ _ (by omega) (by omega) (by omega))))
          go_wp2
          go_region
          go_wp2
          rw [rounds_succ]
          go_wp2
          go_quiet (first | (go_at_call 58; exact quiet_left1 (c_fits_f _ _ _ (by omega) (by omega) (by omega))) | (go_at_call 58; exact quiet_left0 (c_fits_f _ _ _ (by omega) (by omega) (by omega))))
          go_wp2
          refine bodyPost_ret (v := .tuple #[.agg #[.int .i64 0, .int .i64 0], .bool false]) (by simp [results, Try.results42, go_sem, f5, f6, f7, f8, g2]) rfl ⟨?_, ?_⟩
          · have hb : intB s n d t base = false := by unfold intB; rw [HV.out, Z1.out]; simpa using hP
            rw [hb]
            rfl
          · repeat' (first | (with_reducible exact Below.refl _ _) | (with_reducible assumption) | (with_reducible refine below_drewN ?_ _) | (with_reducible refine Below.drew ?_) | (with_reducible refine Below.alloc ?_ ?_ _) | (with_reducible refine Below.setCell ?_ ?_ _) | go_size)

end Go.Proofs.Ytagdibogjlmgmaa
