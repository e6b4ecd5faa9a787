/-
  A total shared evenly: plain numbers. No program.
-/
import Derived.Test.YtagdibogjlmgmabSplitLaw
namespace Go.Proofs.Ytagdibogjlmgmab
set_option linter.unusedVariables false
set_option linter.unusedSimpArgs false

def ones (n : Nat) : List Int := List.replicate n 1
@[simp] theorem ones_length (n : Nat) : (ones n).length = n := by simp [ones]
theorem sumL_ones (n : Nat) : sumL (ones n) = n := by
  induction n with
  | zero => rfl
  | succ n ih => simp only [ones, List.replicate_succ, sumL] at ih ⊢; rw [ih]; omega
theorem any_ones (p : Int → Bool) (n : Nat) (h : 1 ≤ n) : (ones n).any p = p 1 := by
  unfold ones
  rw [List.any_replicate]
  rw [if_neg (by omega)]
theorem errS_ones (T : Int) (n : Nat) (h : 1 ≤ n) (h2 : n ≤ 4096) : errS T (ones n) = if T < 0 then 1 else if 1099511627776 < T then 3 else 0 := by
  unfold errS errV
  rw [any_ones _ _ h, any_ones _ _ h, any_ones _ _ h, ones_length]
  by_cases h1 : T < 0
  · rw [if_pos (.inl h1), if_pos h1]
  · rw [if_neg (by simp; omega), if_neg h1]
    by_cases h3 : 1099511627776 < T
    · rw [if_pos (.inl h3), if_pos h3]
    · rw [if_neg (by simp; omega), if_neg h3]
      simp
theorem ord_const (n : Nat) (x : Int) : ordOf (List.replicate n x) = List.range n := by
  unfold ordOf
  rw [List.length_replicate]
  apply List.mergeSort_of_pairwise
  rw [List.pairwise_iff_getElem]
  intro i j hi hj hij
  simp only [List.length_range] at hi hj
  simp only [List.getElem_range]
  unfold aheadB
  simp [hi, hj]
  omega
theorem parts_ones (T : Int) (n : Nat) (h : 1 ≤ n) (i : Nat) (hi : i < n) : (partsOf T (ones n)).getD i 0 = T / n + if (i : Int) < T % n then 1 else 0 := by
  rw [parts_get T (ones n) i (by simpa using hi), sumL_ones]
  have e1 : (ones n)[i]'(by simpa using hi) = 1 := by simp [ones]
  have e2 : rs T n (ones n) = List.replicate n (T % n) := by simp [rs, ones]
  have e3 : qs T n (ones n) = List.replicate n (T / n) := by simp [qs, ones]
  have e4 : ∀ (m : Nat) (x : Int), sumL (List.replicate m x) = m * x := by
    intro m x
    induction m with
    | zero => simp [sumL]
    | succ m ih => rw [List.replicate_succ, sumL, ih, Int.natCast_add, Int.add_mul]; omega
  have e5 : lft T (ones n) = T % n := by
    unfold lft
    rw [sumL_ones, e3, e4]
    have := Int.mul_ediv_add_emod T n
    omega
  rw [e1, Int.mul_one, e2, e5]
  congr 1
  have h0 := Int.emod_nonneg T (show (n : Int) ≠ 0 by omega)
  have e6 : inTop (List.replicate n (T % n)) (T % n).toNat i = decide ((i : Int) < T % n) := by
    unfold inTop
    rw [ord_const]
    apply decide_eq_decide.2
    rw [List.mem_take_iff_getElem]
    constructor
    · rintro ⟨j, hj, e⟩
      simp at hj e
      omega
    · intro hlt
      exact ⟨i, by simp; omega, by simp⟩
  rw [e6]
  simp

end Go.Proofs.Ytagdibogjlmgmab
