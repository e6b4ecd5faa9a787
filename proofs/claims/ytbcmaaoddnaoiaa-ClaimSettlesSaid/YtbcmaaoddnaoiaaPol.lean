/-
  policy.May and its small functions: their walks.
-/
import Derived.Test.YtbcmaaoddnaoiaaName
import Derived.Test.YtbcmaaoddnaoiaaRow
namespace Go.Proofs.Ytbcmaaoddnaoiaa
set_option linter.unusedVariables false
set_option linter.unusedSimpArgs false
open Go.RowKit

/-- Is a number from one to another one? -/
def wB (n lo hi : Int) : Bool := decide (lo ≤ n ∧ n ≤ hi)
theorem wB_t {n lo hi : Int} (h : wB n lo hi = true) : lo ≤ n ∧ n ≤ hi := by unfold wB at h; simpa using h
set_option maxHeartbeats 400000 in
theorem c_pwithin (n lo hi : Int) (w : World) : Calls Try.prog 91 #[.int .i64 n, .int .i64 lo, .int .i64 hi] w fun e w' => e = .returned (.bool (wB n lo hi)) ∧ w = w' := by
  unfold wB
  by_cases h1 : lo ≤ n
  · by_cases h2 : n ≤ hi
    · go_enter Try.func91, Try.ntmps91
      go_wp2
      go_ret
      exact ⟨ret_b (Bool.eq_iff_iff.2 (by simp; omega)), rfl⟩
    · go_enter Try.func91, Try.ntmps91
      go_wp2
      go_ret
      exact ⟨ret_b (Bool.eq_iff_iff.2 (by simp; omega)), rfl⟩
  · go_enter Try.func91, Try.ntmps91
    go_wp2
    go_ret
    exact ⟨ret_b (Bool.eq_iff_iff.2 (by simp; omega)), rfl⟩
set_option maxHeartbeats 400000 in
theorem c_pday (n : Int) (w : World) : Calls Try.prog 92 #[.int .i64 n] w fun e w' => e = .returned (.bool (wB n 0 1048576)) ∧ w = w' := by
  have HW := Lib.hid (fun n lo hi w => c_pwithin n lo hi w)
  go_enter Try.func92, Try.ntmps92
  go_wp2_with (go_at_call 91; refine (HW.out _ _ _ _).mono ?_; rintro e w' ⟨rfl, rfl⟩)
  go_ret
  exact ⟨rfl, rfl⟩

/-- May causes be? -/
def causesB (z : List Int) : Bool := decide (∀ k, k < z.length → (0 ≤ z.getD k 0 ∧ z.getD k 0 ≤ 1048576) ∧ (0 < k → z.getD (k - 1) 0 < z.getD k 0))
theorem causes_bad {z : List Int} {k : Nat} (hk : k < z.length) (h : ¬ ((0 ≤ z.getD k 0 ∧ z.getD k 0 ≤ 1048576) ∧ (0 < k → z.getD (k - 1) 0 < z.getD k 0))) : causesB z = false := by
  unfold causesB
  rw [decide_eq_false_iff_not]
  exact fun h2 => h (h2 k hk)
/-- May a policy be? -/
def mayP (i f t : ByteArray) (sum own : Int) (z : List Int) (first last share : Int) : Bool :=
  nameB i && nameB f && nameB t && decide (z.length ≤ 64) && causesB z && (wB sum 1 1099511627776 && wB own 0 sum && wB share 1 1000 && wB first 0 1048576 && wB last 0 1048576 && decide (first ≤ last))
/-- A policy as a value. -/
def polV (i f t : ByteArray) (sum own : Int) (ca : Option Addr) (cn cc : Nat) (first last share : Int) : Value :=
  .agg #[.string i, .string f, .string t, .int .i64 sum, .int .i64 own, .slice ca cn cc, .int .i64 first, .int .i64 last, .int .i64 share]

set_option maxRecDepth 100000 in
set_option maxHeartbeats 3200000 in
theorem c_pmay (i f t : ByteArray) (sum own : Int) (ca : Option Addr) (cn cc : Nat) (z : List Int) (first last share : Int) (w : World) (hi : i.size ≤ 9223372036854775807) (hf : f.size ≤ 9223372036854775807) (ht : t.size ≤ 9223372036854775807) (hz : z.length = cn) (hc : Rd w ca (vals .i64 z)) (hcn : cn ≤ 9223372036854775807) :
    Calls Try.prog 62 #[polV i f t sum own ca cn cc first last share] w fun e w' => e = .returned (.bool (mayP i f t sum own z first last share)) ∧ Below w.heap.size w w' := by
  have HN := Lib.hid (fun s w hs => c_mname s w hs)
  have HW := Lib.hid (fun n lo hi w => c_pwithin n lo hi w)
  have HD := Lib.hid (fun n w => c_pday n w)
  have HZ := Lib.hid hz
  have HC := Lib.hid hc
  obtain ⟨M, hM⟩ : ∃ M, M = mayP i f t sum own z first last share := ⟨_, rfl⟩
  rw [← hM]
  unfold mayP at hM
  have HM := Lib.hid hM
  clear hM hz hc
  unfold polV
  cases h1 : nameB i
  · skip
    have hm := HM.out
    rw [h1] at hm
    have HMb := Lib.hid (show M = false by rw [hm]; simp)
    clear hm HM
    go_enter Try.func62, Try.ntmps62
    go_wp2_with (first | (go_at_call 81; (with_reducible refine (HN.out _ _ (by assumption)).mono ?_); rintro e w' ⟨rfl, rfl⟩) | (go_at_call 91; (with_reducible refine (HW.out _ _ _ _).mono ?_); rintro e w' ⟨rfl, rfl⟩) | (go_at_call 92; (with_reducible refine (HD.out _ _).mono ?_); rintro e w' ⟨rfl, rfl⟩))
    go_ret
    exact ⟨ret_b HMb.out.symm, (Below.refl _ _).alloc (Nat.le_refl _) _⟩
  · cases h2 : nameB f
    · skip
      have hm := HM.out
      rw [h1, h2] at hm
      have HMb := Lib.hid (show M = false by rw [hm]; simp)
      clear hm HM
      go_enter Try.func62, Try.ntmps62
      go_wp2_with (first | (go_at_call 81; (with_reducible refine (HN.out _ _ (by assumption)).mono ?_); rintro e w' ⟨rfl, rfl⟩) | (go_at_call 91; (with_reducible refine (HW.out _ _ _ _).mono ?_); rintro e w' ⟨rfl, rfl⟩) | (go_at_call 92; (with_reducible refine (HD.out _ _).mono ?_); rintro e w' ⟨rfl, rfl⟩))
      go_ret
      exact ⟨ret_b HMb.out.symm, (Below.refl _ _).alloc (Nat.le_refl _) _⟩
    · cases h3 : nameB t
      · skip
        have hm := HM.out
        rw [h1, h2, h3] at hm
        have HMb := Lib.hid (show M = false by rw [hm]; simp)
        clear hm HM
        go_enter Try.func62, Try.ntmps62
        go_wp2_with (first | (go_at_call 81; (with_reducible refine (HN.out _ _ (by assumption)).mono ?_); rintro e w' ⟨rfl, rfl⟩) | (go_at_call 91; (with_reducible refine (HW.out _ _ _ _).mono ?_); rintro e w' ⟨rfl, rfl⟩) | (go_at_call 92; (with_reducible refine (HD.out _ _).mono ?_); rintro e w' ⟨rfl, rfl⟩))
        go_ret
        exact ⟨ret_b HMb.out.symm, (Below.refl _ _).alloc (Nat.le_refl _) _⟩
      · have hm := HM.out
        rw [h1, h2, h3, HZ.out] at hm
        have HM := Lib.hid hm
        clear hm
        by_cases h4 : cn ≤ 64
        · go_enter Try.func62, Try.ntmps62
          go_wp2_with (first | (go_at_call 81; (with_reducible refine (HN.out _ _ (by assumption)).mono ?_); rintro e w' ⟨rfl, rfl⟩) | (go_at_call 91; (with_reducible refine (HW.out _ _ _ _).mono ?_); rintro e w' ⟨rfl, rfl⟩) | (go_at_call 92; (with_reducible refine (HD.out _ _).mono ?_); rintro e w' ⟨rfl, rfl⟩))
          have HC1 := Lib.hid (HC.out.alloc (.cells #[.string i, .string f, .string t, .int .i64 sum, .int .i64 own, .slice ca cn cc, .int .i64 first, .int .i64 last, .int .i64 share] 57))
          clear h1 h2 h3
          go_loop [30] (fun x => ∃ k : Nat, x = .int .i64 k ∧ k ≤ cn ∧ Hid (∀ j, j < k → (0 ≤ z.getD j 0 ∧ z.getD j 0 ≤ 1048576) ∧ (0 < j → z.getD (j - 1) 0 < z.getD j 0))) (fun x => cn - (intOf x).toNat)
          case atStart => exact ⟨0, rfl, by omega, by intro j hj; omega⟩
          case round =>
            obtain ⟨k, rfl, hk, hA⟩ := hrel
            by_cases hlt : k < cn
            · have hkz : k < z.length := by rw [HZ.out]; exact hlt
              obtain ⟨b, o, rfl, hb, hall, hcx⟩ := HC1.out.at k (by simpa using hkz)
              rw [vals_get .i64 z k hkz] at hcx
              have hget : z.getD k 0 = z[k] := by rw [List.getD_eq_getElem?_getD, List.getElem?_eq_getElem hkz]; rfl
              have HBad := Lib.hid (fun h => causes_bad hkz h)
              cases hw1 : wB z[k] 0 1048576
              · have HMb := Lib.hid (show M = false by
                  have hm := HM.out
                  rw [HBad.out (by rw [hget]; intro h2; unfold wB at hw1; simp at hw1; omega)] at hm
                  rw [hm]; simp)
                clear hall hget HBad HM
                generalize z[k] = x at *
                go_wp2_with (first | (go_at_call 91; (with_reducible refine (HW.out _ _ _ _).mono ?_); rintro e w' ⟨rfl, rfl⟩) | (go_at_call 92; (with_reducible refine (HD.out _ _).mono ?_); rintro e w' ⟨rfl, rfl⟩))
                go_ret
                exact ⟨ret_b HMb.out.symm, (Below.refl _ _).alloc (Nat.le_refl _) _⟩
              · have hw2 := wB_t hw1
                rcases Nat.eq_zero_or_pos k with hk0 | hk0
                · subst hk0
                  have HA' := Lib.hid (show ∀ j, j < 0 + 1 → (0 ≤ z.getD j 0 ∧ z.getD j 0 ≤ 1048576) ∧ (0 < j → z.getD (j - 1) 0 < z.getD j 0) from fun j hj => by
                    obtain rfl : j = 0 := by omega
                    rw [hget]
                    exact ⟨hw2, fun h => by omega⟩)
                  clear hall hget HBad
                  generalize z[0] = x at *
                  rw [Nat.add_zero] at hcx
                  go_wp2_with (first | (go_at_call 91; (with_reducible refine (HW.out _ _ _ _).mono ?_); rintro e w' ⟨rfl, rfl⟩) | (go_at_call 92; (with_reducible refine (HD.out _ _).mono ?_); rintro e w' ⟨rfl, rfl⟩))
                  go_round
                  case rel => exact ⟨0 + 1, by go_num, by omega, HA'.out⟩
                  case measure => simp [intOf]; omega
                · obtain ⟨p, rfl⟩ : ∃ p, k = p + 1 := ⟨k - 1, by omega⟩
                  have hpz : p < z.length := by omega
                  have hcy := hall p (.int .i64 z[p]) (by simp [vals, hpz])
                  have hgetp : z.getD p 0 = z[p] := by rw [List.getD_eq_getElem?_getD, List.getElem?_eq_getElem hpz]; rfl
                  by_cases hyx : z[p] < z[p + 1]
                  · have HA' := Lib.hid (show ∀ j, j < p + 1 + 1 → (0 ≤ z.getD j 0 ∧ z.getD j 0 ≤ 1048576) ∧ (0 < j → z.getD (j - 1) 0 < z.getD j 0) from fun j hj => by
                      rcases Nat.lt_or_ge j (p + 1) with h | h
                      · exact hA.out j h
                      · obtain rfl : j = p + 1 := by omega
                        rw [hget, show p + 1 - 1 = p by omega, hgetp]
                        exact ⟨hw2, fun _ => hyx⟩)
                    clear hall hget hgetp HBad
                    generalize z[p + 1] = x at *
                    generalize z[p] = y at *
                    have t1 : decide (x ≤ y) = false := by simp; omega
                    go_wp2_with (first | (go_at_call 91; (with_reducible refine (HW.out _ _ _ _).mono ?_); rintro e w' ⟨rfl, rfl⟩) | (go_at_call 92; (with_reducible refine (HD.out _ _).mono ?_); rintro e w' ⟨rfl, rfl⟩))
                    go_round
                    case rel => exact ⟨p + 1 + 1, by go_num, by omega, HA'.out⟩
                    case measure => simp [intOf]; omega
                  · have HMb := Lib.hid (show M = false by
                      have hm := HM.out
                      rw [HBad.out (by rw [hget, show p + 1 - 1 = p by omega, hgetp]; intro h2; exact hyx (h2.2 (by omega)))] at hm
                      rw [hm]; simp)
                    clear hall hget hgetp HBad HM
                    generalize z[p + 1] = x at *
                    generalize z[p] = y at *
                    have t1 : decide (x ≤ y) = true := by simp; omega
                    go_wp2_with (first | (go_at_call 91; (with_reducible refine (HW.out _ _ _ _).mono ?_); rintro e w' ⟨rfl, rfl⟩) | (go_at_call 92; (with_reducible refine (HD.out _ _).mono ?_); rintro e w' ⟨rfl, rfl⟩))
                    go_ret
                    exact ⟨ret_b HMb.out.symm, (Below.refl _ _).alloc (Nat.le_refl _) _⟩
            · obtain rfl : k = cn := by omega
              have hcz : causesB z = true := by
                unfold causesB
                simp only [decide_eq_true_eq]
                rw [HZ.out]
                exact hA.out
              have hm := HM.out
              rw [hcz, show decide (k ≤ 64) = true by simpa using h4] at hm
              simp only [Bool.true_and] at hm
              have HM := Lib.hid hm
              clear hm hcz hA
              cases q1 : wB sum 1 1099511627776
              · have HMb := Lib.hid (show M = false by rw [HM.out, q1]; simp)
                clear HM
                go_wp2_with (first | (go_at_call 91; (with_reducible refine (HW.out _ _ _ _).mono ?_); rintro e w' ⟨rfl, rfl⟩) | (go_at_call 92; (with_reducible refine (HD.out _ _).mono ?_); rintro e w' ⟨rfl, rfl⟩))
                go_ret
                exact ⟨ret_b HMb.out.symm, (Below.refl _ _).alloc (Nat.le_refl _) _⟩
              · cases q2 : wB own 0 sum
                · have HMb := Lib.hid (show M = false by rw [HM.out, q2]; simp)
                  clear HM
                  go_wp2_with (first | (go_at_call 91; (with_reducible refine (HW.out _ _ _ _).mono ?_); rintro e w' ⟨rfl, rfl⟩) | (go_at_call 92; (with_reducible refine (HD.out _ _).mono ?_); rintro e w' ⟨rfl, rfl⟩))
                  go_ret
                  exact ⟨ret_b HMb.out.symm, (Below.refl _ _).alloc (Nat.le_refl _) _⟩
                · cases q3 : wB share 1 1000
                  · have HMb := Lib.hid (show M = false by rw [HM.out, q3]; simp)
                    clear HM
                    go_wp2_with (first | (go_at_call 91; (with_reducible refine (HW.out _ _ _ _).mono ?_); rintro e w' ⟨rfl, rfl⟩) | (go_at_call 92; (with_reducible refine (HD.out _ _).mono ?_); rintro e w' ⟨rfl, rfl⟩))
                    go_ret
                    exact ⟨ret_b HMb.out.symm, (Below.refl _ _).alloc (Nat.le_refl _) _⟩
                  · cases q4 : wB first 0 1048576
                    · have HMb := Lib.hid (show M = false by rw [HM.out, q4]; simp)
                      clear HM
                      go_wp2_with (first | (go_at_call 91; (with_reducible refine (HW.out _ _ _ _).mono ?_); rintro e w' ⟨rfl, rfl⟩) | (go_at_call 92; (with_reducible refine (HD.out _ _).mono ?_); rintro e w' ⟨rfl, rfl⟩))
                      go_ret
                      exact ⟨ret_b HMb.out.symm, (Below.refl _ _).alloc (Nat.le_refl _) _⟩
                    · cases q5 : wB last 0 1048576
                      · have HMb := Lib.hid (show M = false by rw [HM.out, q5]; simp)
                        clear HM
                        go_wp2_with (first | (go_at_call 91; (with_reducible refine (HW.out _ _ _ _).mono ?_); rintro e w' ⟨rfl, rfl⟩) | (go_at_call 92; (with_reducible refine (HD.out _ _).mono ?_); rintro e w' ⟨rfl, rfl⟩))
                        go_ret
                        exact ⟨ret_b HMb.out.symm, (Below.refl _ _).alloc (Nat.le_refl _) _⟩
                      · have HMb := Lib.hid (show M = decide (first ≤ last) by rw [HM.out, q1, q2, q3, q4, q5]; simp)
                        clear HM
                        go_wp2_with (first | (go_at_call 91; (with_reducible refine (HW.out _ _ _ _).mono ?_); rintro e w' ⟨rfl, rfl⟩) | (go_at_call 92; (with_reducible refine (HD.out _ _).mono ?_); rintro e w' ⟨rfl, rfl⟩))
                        go_ret
                        exact ⟨ret_b HMb.out.symm, (Below.refl _ _).alloc (Nat.le_refl _) _⟩
        · have hm := HM.out
          have HMb := Lib.hid (show M = false by rw [hm]; simp [h4])
          clear hm HM
          go_enter Try.func62, Try.ntmps62
          go_wp2_with (first | (go_at_call 81; (with_reducible refine (HN.out _ _ (by assumption)).mono ?_); rintro e w' ⟨rfl, rfl⟩) | (go_at_call 91; (with_reducible refine (HW.out _ _ _ _).mono ?_); rintro e w' ⟨rfl, rfl⟩) | (go_at_call 92; (with_reducible refine (HD.out _ _).mono ?_); rintro e w' ⟨rfl, rfl⟩))
          go_ret
          exact ⟨ret_b HMb.out.symm, (Below.refl _ _).alloc (Nat.le_refl _) _⟩

end Go.Proofs.Ytbcmaaoddnaoiaa
