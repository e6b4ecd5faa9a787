/-
  Names: mark.Name and the reference's Name: their walks.
-/
import Derived.Test.YtdkabldhkgidjaaDoorWrong
namespace Go.Proofs.YtdkabldhkgidjaaDoor
set_option linter.unusedVariables false
set_option linter.unusedSimpArgs false
open Go.RowKit

theorem take_snoc (s : ByteArray) (k : Nat) (h : k < s.size) : s.data.toList.take (k + 1) = s.data.toList.take k ++ [s[k]] := by
  rw [List.take_succ_eq_append_getElem (by simpa using h)]; rfl
/-- A letter, a digit or a hyphen. -/
def okI (x : Int) : Bool := decide ((97 ≤ x ∧ x ≤ 122) ∨ (48 ≤ x ∧ x ≤ 57) ∨ x = 45)
def okS (l : List UInt8) : Bool := l.all fun c => okI c.toNat
theorem okS_snoc (l : List UInt8) (c : UInt8) : okS (l ++ [c]) = (okS l && okI c.toNat) := by simp [okS]
/-- A name. -/
def nameB (s : ByteArray) : Bool := decide (1 ≤ s.size ∧ s.size ≤ 16) && okS s.data.toList

set_option maxHeartbeats 400000 in
theorem c_mlower (x : Int) (w : World) : Calls Tryd.prog 74 #[.int .u8 x] w fun e w' => e = .returned (.bool (decide (97 ≤ x ∧ x ≤ 122))) ∧ w = w' := by
  go_enter Tryd.func74, Tryd.ntmps74
  go_wp2
  all_goals (go_ret; exact ⟨ret_b (Bool.eq_iff_iff.2 (by simp; try omega)), rfl⟩)
set_option maxHeartbeats 400000 in
theorem c_mdigit (x : Int) (w : World) : Calls Tryd.prog 75 #[.int .u8 x] w fun e w' => e = .returned (.bool (decide (48 ≤ x ∧ x ≤ 57))) ∧ w = w' := by
  go_enter Tryd.func75, Tryd.ntmps75
  go_wp2
  all_goals (go_ret; exact ⟨ret_b (Bool.eq_iff_iff.2 (by simp; try omega)), rfl⟩)
set_option maxHeartbeats 400000 in
theorem c_rletter (x : Int) (w : World) : Calls Tryd.prog 58 #[.int .u8 x] w fun e w' => e = .returned (.bool (decide (97 ≤ x ∧ x ≤ 122))) ∧ w = w' := by
  go_enter Tryd.func58, Tryd.ntmps58
  go_wp2
  all_goals (go_ret; exact ⟨ret_b (Bool.eq_iff_iff.2 (by simp; try omega)), rfl⟩)
set_option maxHeartbeats 400000 in
theorem c_rdigit (x : Int) (w : World) : Calls Tryd.prog 59 #[.int .u8 x] w fun e w' => e = .returned (.bool (decide (48 ≤ x ∧ x ≤ 57))) ∧ w = w' := by
  go_enter Tryd.func59, Tryd.ntmps59
  go_wp2
  all_goals (go_ret; exact ⟨ret_b (Bool.eq_iff_iff.2 (by simp; try omega)), rfl⟩)

theorem ok_cases (x : Int) : (97 ≤ x ∧ x ≤ 122 ∧ okI x = true) ∨ (¬ (97 ≤ x ∧ x ≤ 122) ∧ 48 ≤ x ∧ x ≤ 57 ∧ okI x = true) ∨ (¬ (97 ≤ x ∧ x ≤ 122) ∧ ¬ (48 ≤ x ∧ x ≤ 57) ∧ x = 45 ∧ okI x = true) ∨ (¬ (97 ≤ x ∧ x ≤ 122) ∧ ¬ (48 ≤ x ∧ x ≤ 57) ∧ x ≠ 45 ∧ okI x = false) := by
  unfold okI
  simp only [decide_eq_true_eq, decide_eq_false_iff_not]
  omega
set_option maxHeartbeats 800000 in
theorem c_name1 (x : Int) (w : World) : Calls Tryd.prog 73 #[.int .u8 x] w fun e w' => e = .returned (.bool (okI x)) ∧ w = w' := by
  have h1 := Lib.hid (fun w => c_mlower x w)
  have h2 := Lib.hid (fun w => c_mdigit x w)
  rcases ok_cases x with ⟨a, b, c⟩ | ⟨a, b, b', c⟩ | ⟨a, b, b', c⟩ | ⟨a, b, b', c⟩
  · have t1 : decide (97 ≤ x ∧ x ≤ 122) = true := by simp; omega
    have hc := Lib.hid c
    clear c a b
    go_enter Tryd.func73, Tryd.ntmps73
    go_wp2_with (first | (go_at_call 74; refine (h1.out _).mono ?_; rw [t1]; rintro e w' ⟨rfl, rfl⟩) | (go_at_call 75; refine (h2.out _).mono ?_; rintro e w' ⟨rfl, rfl⟩))
    go_ret
    exact ⟨ret_b hc.out.symm, rfl⟩
  · have t1 : decide (97 ≤ x ∧ x ≤ 122) = false := by simp only [decide_eq_false_iff_not]; exact a
    have t2 : decide (48 ≤ x ∧ x ≤ 57) = true := by simp; omega
    have hc := Lib.hid c
    clear c a b b'
    go_enter Tryd.func73, Tryd.ntmps73
    go_wp2_with (first | (go_at_call 74; refine (h1.out _).mono ?_; rw [t1]; rintro e w' ⟨rfl, rfl⟩) | (go_at_call 75; refine (h2.out _).mono ?_; rw [t2]; rintro e w' ⟨rfl, rfl⟩))
    go_ret
    exact ⟨ret_b hc.out.symm, rfl⟩
  · have t1 : decide (97 ≤ x ∧ x ≤ 122) = false := by simp only [decide_eq_false_iff_not]; exact a
    have t2 : decide (48 ≤ x ∧ x ≤ 57) = false := by simp only [decide_eq_false_iff_not]; exact b
    have hc := Lib.hid c
    subst b'
    clear c a b
    go_enter Tryd.func73, Tryd.ntmps73
    go_wp2_with (first | (go_at_call 74; refine (h1.out _).mono ?_; rw [t1]; rintro e w' ⟨rfl, rfl⟩) | (go_at_call 75; refine (h2.out _).mono ?_; rw [t2]; rintro e w' ⟨rfl, rfl⟩))
    go_ret
    exact ⟨ret_b hc.out.symm, rfl⟩
  · have t1 : decide (97 ≤ x ∧ x ≤ 122) = false := by simp only [decide_eq_false_iff_not]; exact a
    have t2 : decide (48 ≤ x ∧ x ≤ 57) = false := by simp only [decide_eq_false_iff_not]; exact b
    have t3 : (x == 45) = false := by simpa using b'
    have hc := Lib.hid c
    clear c a b b'
    go_enter Tryd.func73, Tryd.ntmps73
    go_wp2_with (first | (go_at_call 74; refine (h1.out _).mono ?_; rw [t1]; rintro e w' ⟨rfl, rfl⟩) | (go_at_call 75; refine (h2.out _).mono ?_; rw [t2]; rintro e w' ⟨rfl, rfl⟩))
    go_ret
    exact ⟨ret_b hc.out.symm, rfl⟩

theorem e_name1 : EntersIs 73 := enters_of Tryd.func73 (by kernel_rfl) rfl

set_option maxHeartbeats 800000 in
theorem c_all (s : ByteArray) (w : World) (hs : s.size ≤ 9223372036854775807) : Calls Tryd.prog 72 #[.string s, .func (.func 73) #[] #[]] w fun e w' => e = .returned (.bool (okS s.data.toList)) ∧ w = w' := by
  have eg : ∀ args w, (callFunc 73 args).run Tryd.prog w = .ok (.enter 73 args) w := e_name1
  go_enter Tryd.func72, Tryd.ntmps72
  go_wp2
  go_loop [8] (fun i => ∃ k : Nat, i = .int .i64 k ∧ k ≤ s.size ∧ Hid (okS (s.data.toList.take k) = true)) (fun i => s.size - (intOf i).toNat)
  case atStart => exact ⟨0, rfl, by omega, by show _ = _; simp [okS]⟩
  case round =>
    obtain ⟨k, rfl, hk, hf⟩ := hrel
    by_cases hlt : k < s.size
    · have hsn := okS_snoc (s.data.toList.take k) s[k]
      have hts := take_snoc s k hlt
      rw [← hts, hf.out, Bool.true_and] at hsn
      have HS := Lib.hid hsn
      have H1 := Lib.hid (fun w => c_name1 (s[k].toNat : Int) w)
      clear hsn hts
      generalize hb : okI (s[k].toNat : Int) = b at *
      have HB := Lib.hid hb
      clear hb
      cases b
      · go_wp2_with (go_at_fn 73; refine (H1.out _).mono ?_; rintro e w' ⟨rfl, rfl⟩)
        go_ret
        refine ⟨ret_b ?_, rfl⟩
        have h1 := HS.out
        unfold okS at h1 ⊢
        rw [← List.take_append_drop (k + 1) s.data.toList, List.all_append, h1]
        rfl
      · go_wp2_with (go_at_fn 73; refine (H1.out _).mono ?_; rintro e w' ⟨rfl, rfl⟩)
        go_round
        case rel => exact ⟨k + 1, by go_num, by omega, HS.out⟩
        case measure => simp [intOf]; omega
    · obtain rfl : k = s.size := by omega
      have h1 := hf.out
      rw [List.take_of_length_le (by simp)] at h1
      have H1 := Lib.hid h1
      clear h1 hf
      go_wp2
      go_ret
      exact ⟨ret_b H1.out.symm, rfl⟩

set_option maxHeartbeats 800000 in
theorem c_mname (s : ByteArray) (w : World) (hs : s.size ≤ 9223372036854775807) : Calls Tryd.prog 56 #[.string s] w fun e w' => e = .returned (.bool (nameB s)) ∧ w = w' := by
  have HA := Lib.hid (fun w => c_all s w hs)
  by_cases h : 1 ≤ s.size ∧ s.size ≤ 16
  · obtain ⟨h1, h2⟩ := h
    have hn : nameB s = okS s.data.toList := by unfold nameB; rw [decide_eq_true ⟨h1, h2⟩]; rfl
    have HN := Lib.hid hn
    clear hn
    generalize hb : okS s.data.toList = b at *
    have HB := Lib.hid hb
    clear hb
    cases b
    all_goals
      go_enter Tryd.func56, Tryd.ntmps56
      go_wp2_with (go_at_call 72; refine (HA.out _).mono ?_; rintro e w' ⟨rfl, rfl⟩)
      go_ret
      exact ⟨ret_b HN.out.symm, rfl⟩
  · have hn : nameB s = false := by unfold nameB; rw [decide_eq_false h]; rfl
    have HN := Lib.hid hn
    clear hn
    by_cases h1 : 1 ≤ s.size
    all_goals
      go_enter Tryd.func56, Tryd.ntmps56
      go_wp2
      go_ret
      exact ⟨ret_b HN.out.symm, rfl⟩

end Go.Proofs.YtdkabldhkgidjaaDoor
