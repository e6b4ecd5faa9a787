/-
  Interest of what is left, payment by payment: plain numbers. No program.
-/
import Derived.Test.YtagdibogjlmgmabEvenNum
import Derived.Test.YtagdibogjlmgmabA3
namespace Go.Proofs.Ytagdibogjlmgmab
set_option linter.unusedVariables false
set_option linter.unusedSimpArgs false

theorem near_hi (N D : Int) (hN : 0 ≤ N) (hD : 1 ≤ D) : 2 * N < (2 * near N D + 1) * D := by
  have h6 := Int.mul_ediv_add_emod N D
  have h8 := Int.emod_lt_of_pos N (show 0 < D by omega)
  have h7 := Int.emod_nonneg N (show D ≠ 0 by omega)
  unfold near
  generalize N / D = q at *
  generalize N % D = r at *
  split
  · have e : (2 * (q + 1) + 1) * D = 2 * (D * q) + 3 * D := by grind
    rw [e]; omega
  · have e : (2 * q + 1) * D = 2 * (D * q) + D := by grind
    rw [e]; omega
theorem near_lo (N D : Int) (hN : 0 ≤ N) (hD : 1 ≤ D) : (2 * near N D - 1) * D ≤ 2 * N := by
  have h6 := Int.mul_ediv_add_emod N D
  have h8 := Int.emod_lt_of_pos N (show 0 < D by omega)
  have h7 := Int.emod_nonneg N (show D ≠ 0 by omega)
  unfold near
  generalize N / D = q at *
  generalize N % D = r at *
  split
  · have e : (2 * (q + 1) - 1) * D = 2 * (D * q) + D := by grind
    rw [e]; omega
  · have e : (2 * q - 1) * D = 2 * (D * q) - D := by grind
    rw [e]; omega
theorem near_mono (N1 D1 N2 D2 : Int) (h1 : 0 ≤ N1) (h2 : 1 ≤ D1) (h3 : 0 ≤ N2) (h4 : 1 ≤ D2) (h : N1 * D2 ≤ N2 * D1) : near N1 D1 ≤ near N2 D2 := by
  have a := near_lo N1 D1 h1 h2
  have b := near_hi N2 D2 h3 h4
  generalize near N1 D1 = m at *
  generalize near N2 D2 = k at *
  rcases Int.lt_or_le k m with hlt | hle
  · exfalso
    have a2 : (2 * m - 1) * D1 * D2 ≤ 2 * N1 * D2 := Int.mul_le_mul_of_nonneg_right a (by omega)
    have b2 : 2 * N2 * D1 < (2 * k + 1) * D2 * D1 := Int.mul_lt_mul_of_pos_right b (by omega)
    have c : (2 * k + 1) * (D1 * D2) ≤ (2 * m - 1) * (D1 * D2) := Int.mul_le_mul_of_nonneg_right (by omega) (Int.mul_nonneg (by omega) (by omega))
    have e1 : (2 * m - 1) * D1 * D2 = (2 * m - 1) * (D1 * D2) := by grind
    have e2 : (2 * k + 1) * D2 * D1 = (2 * k + 1) * (D1 * D2) := by grind
    have e3 : 2 * N1 * D2 = 2 * (N1 * D2) := by grind
    have e4 : 2 * N2 * D1 = 2 * (N2 * D1) := by grind
    rw [e1, e3] at a2
    rw [e2, e4] at b2
    omega
  · exact hle
theorem int_mono {s s' n d t base : Int} (hs : s ≤ s') (hB : intB s n d t base = true) (hB' : intB s' n d t base = true) :
    intN s n d t base * intD s' n d t base ≤ intN s' n d t base * intD s n d t base := by
  unfold intB at hB hB'
  simp only [Bool.and_eq_true, decide_eq_true_eq] at hB hB'
  have hv := hB.1
  have hv' := hB'.1
  have e1 := int_eq hv
  have e2 := int_eq hv'
  have hE := (valid_D hv).1
  have p1 := (intD_pos hv).1
  have p2 := (intD_pos hv').1
  have hn : 0 ≤ n * t := by
    unfold validB at hv
    simp only [decide_eq_true_eq] at hv
    exact Int.mul_nonneg hv.2.2.1 hv.2.2.2.2.2.2.1
  generalize intN s n d t base = N1 at *
  generalize intN s' n d t base = N2 at *
  generalize intD s n d t base = D1 at *
  generalize intD s' n d t base = D2 at *
  generalize d * base = E at *
  have hss : s * (n * t) ≤ s' * (n * t) := Int.mul_le_mul_of_nonneg_right hs hn
  have h : N1 * D2 * E ≤ N2 * D1 * E := by
    have a : N1 * D2 * E = s * (n * t) * (D1 * D2) := by
      have : N1 * D2 * E = (N1 * E) * D2 := by grind
      rw [this, e1]; grind
    have b : N2 * D1 * E = s' * (n * t) * (D1 * D2) := by
      have : N2 * D1 * E = (N2 * E) * D1 := by grind
      rw [this, e2]; grind
    rw [a, b]
    exact Int.mul_le_mul_of_nonneg_right hss (Int.mul_nonneg (by omega) (by omega))
  exact Int.le_of_mul_le_mul_right h (by omega)

/-- Interest, rounded; 0 of none. -/
def dueV (s n d t base : Int) : Int := near (intN s n d t base) (intD s n d t base)
theorem due_mono {s s' n d t base : Int} (hs : s ≤ s') (hB : intB s n d t base = true) (hB' : intB s' n d t base = true) : dueV s n d t base ≤ dueV s' n d t base := by
  have f := int_facts hB
  have f' := int_facts hB'
  exact near_mono _ _ _ _ f.2.2.1 f.2.2.2.2.1 f'.2.2.1 f'.2.2.2.2.1 (int_mono hs hB hB')
/-- What is left ahead of payment i. -/
def leftAt (S : Int) (bs : List Int) (i : Nat) : Int := S - sumL (bs.take i)
theorem leftAt_succ (S : Int) (bs : List Int) (i : Nat) (h : i < bs.length) : leftAt S bs (i + 1) = leftAt S bs i - bs[i] := by
  unfold leftAt
  rw [sumL_take_succ' bs i h]
  omega
/-- Interest of each payment. -/
def dues (S n d t base : Int) (bs : List Int) (k : Nat) : List Int := (List.range k).map fun i => dueV (leftAt S bs i) n d t base
@[simp] theorem dues_length (S n d t base : Int) (bs : List Int) (k : Nat) : (dues S n d t base bs k).length = k := by simp [dues]
theorem dues_succ (S n d t base : Int) (bs : List Int) (k : Nat) : dues S n d t base bs (k + 1) = dues S n d t base bs k ++ [dueV (leftAt S bs k) n d t base] := by
  simp [dues, List.range_succ]
theorem dues_get (S n d t base : Int) (bs : List Int) (k i : Nat) (h : i < k) : (dues S n d t base bs k)[i]? = some (dueV (leftAt S bs i) n d t base) := by
  simp [dues, h]

end Go.Proofs.Ytagdibogjlmgmab
