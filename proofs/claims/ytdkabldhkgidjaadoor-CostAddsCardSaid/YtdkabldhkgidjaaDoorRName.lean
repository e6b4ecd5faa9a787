/-
  The reference's Name: its walk.
-/
import Derived.Test.YtdkabldhkgidjaaDoorName
namespace Go.Proofs.YtdkabldhkgidjaaDoor
set_option linter.unusedVariables false
set_option linter.unusedSimpArgs false
open Go.RowKit

set_option maxHeartbeats 1600000 in
theorem c_rname (s : ByteArray) (w : World) (hs : s.size ≤ 9223372036854775807) : Calls Tryd.prog 43 #[.string s] w fun e w' => e = .returned (.bool (nameB s)) ∧ w = w' := by
  go_enter Tryd.func43, Tryd.ntmps43
  go_wp2
  go_loop [3] (fun i => ∃ k : Nat, i = .int .i64 k ∧ k ≤ s.size ∧ Hid (okS (s.data.toList.take k) = true)) (fun i => s.size - (intOf i).toNat)
  case atStart => exact ⟨0, rfl, by omega, by show _ = _; simp [okS]⟩
  case round =>
    obtain ⟨k, rfl, hk, hf⟩ := hrel
    by_cases hlt : k < s.size
    · have hsn := okS_snoc (s.data.toList.take k) s[k]
      have hts := take_snoc s k hlt
      rw [← hts, hf.out, Bool.true_and] at hsn
      have HS := Lib.hid hsn
      clear hsn hts
      have hbad : okI (s[k].toNat : Int) = false → nameB s = false := by
        intro h
        have h1 := HS.out
        unfold nameB
        have : okS s.data.toList = false := by
          unfold okS at h1 ⊢
          rw [← List.take_append_drop (k + 1) s.data.toList, List.all_append, h1, h]
          rfl
        rw [this]; simp
      have HBad := Lib.hid hbad
      clear hbad
      have hx0 : 0 ≤ (s[k].toNat : Int) := by omega
      have hx1 : (s[k].toNat : Int) < 256 := by have := s[k].toNat_lt; omega
      rcases ok_cases (s[k].toNat : Int) with ⟨a, b, c⟩ | ⟨a, b, b', c⟩ | ⟨a, b, b', c⟩ | ⟨a, b, b', c⟩
      · have t1 : decide (97 ≤ (s[k].toNat : Int) ∧ (s[k].toNat : Int) ≤ 122) = true := by simp only [decide_eq_true_eq]; exact ⟨a, b⟩
        have h1 := c_rletter (s[k].toNat : Int)
        rw [t1] at h1
        have H1 := Lib.hid h1
        rw [c] at HS
        clear h1 t1 a b c
        go_wp2_with (go_at_call 58; refine (H1.out _).mono ?_; rintro e w' ⟨rfl, rfl⟩)
        go_round
        case rel => exact ⟨k + 1, by go_num, by omega, HS.out⟩
        case measure => simp [intOf]; omega
      · have t1 : decide (97 ≤ (s[k].toNat : Int) ∧ (s[k].toNat : Int) ≤ 122) = false := by simp only [decide_eq_false_iff_not]; exact a
        have t2 : decide (48 ≤ (s[k].toNat : Int) ∧ (s[k].toNat : Int) ≤ 57) = true := by simp only [decide_eq_true_eq]; exact ⟨b, b'⟩
        have h1 := c_rletter (s[k].toNat : Int)
        have h2 := c_rdigit (s[k].toNat : Int)
        rw [t1] at h1
        rw [t2] at h2
        have H1 := Lib.hid h1
        have H2 := Lib.hid h2
        rw [c] at HS
        clear h1 h2 t1 t2 a b b' c
        go_wp2_with (first | (go_at_call 58; refine (H1.out _).mono ?_; rintro e w' ⟨rfl, rfl⟩) | (go_at_call 59; refine (H2.out _).mono ?_; rintro e w' ⟨rfl, rfl⟩))
        go_round
        case rel => exact ⟨k + 1, by go_num, by omega, HS.out⟩
        case measure => simp [intOf]; omega
      · have t1 : decide (97 ≤ (s[k].toNat : Int) ∧ (s[k].toNat : Int) ≤ 122) = false := by simp only [decide_eq_false_iff_not]; exact a
        have t2 : decide (48 ≤ (s[k].toNat : Int) ∧ (s[k].toNat : Int) ≤ 57) = false := by simp only [decide_eq_false_iff_not]; exact b
        have t3 : ((s[k].toNat : Int) != 45) = false := by rw [b']; rfl
        have h1 := c_rletter (s[k].toNat : Int)
        have h2 := c_rdigit (s[k].toNat : Int)
        rw [t1] at h1
        rw [t2] at h2
        have H1 := Lib.hid h1
        have H2 := Lib.hid h2
        rw [c] at HS
        clear h1 h2 t1 t2 a b b' c
        go_wp2_with (first | (go_at_call 58; refine (H1.out _).mono ?_; rintro e w' ⟨rfl, rfl⟩) | (go_at_call 59; refine (H2.out _).mono ?_; rintro e w' ⟨rfl, rfl⟩))
        go_round
        case rel => exact ⟨k + 1, by go_num, by omega, HS.out⟩
        case measure => simp [intOf]; omega
      · have t1 : decide (97 ≤ (s[k].toNat : Int) ∧ (s[k].toNat : Int) ≤ 122) = false := by simp only [decide_eq_false_iff_not]; exact a
        have t2 : decide (48 ≤ (s[k].toNat : Int) ∧ (s[k].toNat : Int) ≤ 57) = false := by simp only [decide_eq_false_iff_not]; exact b
        have t3 : ((s[k].toNat : Int) != 45) = true := by simpa using b'
        have h1 := c_rletter (s[k].toNat : Int)
        have h2 := c_rdigit (s[k].toNat : Int)
        rw [t1] at h1
        rw [t2] at h2
        have H1 := Lib.hid h1
        have H2 := Lib.hid h2
        have HN := Lib.hid (HBad.out c)
        clear h1 h2 t1 t2 a b b' c HS
        go_wp2_with (first | (go_at_call 58; refine (H1.out _).mono ?_; rintro e w' ⟨rfl, rfl⟩) | (go_at_call 59; refine (H2.out _).mono ?_; rintro e w' ⟨rfl, rfl⟩))
        go_ret
        exact ⟨ret_b HN.out.symm, rfl⟩
    · obtain rfl : k = s.size := by omega
      have h1 := hf.out
      rw [List.take_of_length_le (by simp)] at h1
      have hn : nameB s = decide (1 ≤ s.size ∧ s.size ≤ 16) := by unfold nameB; rw [h1]; simp
      have HN := Lib.hid hn
      clear h1 hf hn
      go_wp2
      all_goals
        go_ret
        exact ⟨ret_b (HN.out.trans (Bool.eq_iff_iff.2 (by simp; try omega))).symm, rfl⟩

end Go.Proofs.YtdkabldhkgidjaaDoor
