/-
  What no error says of a total and its weights. 
-/
import Derived.Test.YtdkabldhkgidjaaDoorWrong
import Derived.Test.YtdkabldhkgidjaaDoorSplitM
namespace Go.Proofs.YtdkabldhkgidjaaDoor
set_option linter.unusedVariables false
set_option linter.unusedSimpArgs false
open Go.RowKit

theorem errS_zero {T : Int} {zs : List Int} (h : errS T zs = 0) : 0 ≤ T ∧ T ≤ 1099511627776 ∧ 0 < zs.length ∧ zs.length ≤ 4096 ∧ (∀ x ∈ zs, 0 ≤ x ∧ x ≤ 1099511627776) ∧ (0 < T → ∃ x ∈ zs, 0 < x) := by
  unfold errS errV at h
  split at h
  · cases h
  · rename_i h1
    split at h
    · cases h
    · rename_i h2
      split at h
      · cases h
      · rename_i h3
        simp only [List.any_eq_true, decide_eq_true_eq, not_or, not_exists, not_and, Int.not_lt, Nat.not_lt, List.any_eq_false, Classical.not_not] at h1 h2 h3
        refine ⟨by omega, by omega, by omega, by omega, fun x hx => ⟨h1.2.2 x hx, h2.2.1 x hx⟩, fun hT => ?_⟩
        have := h3 hT
        simpa using this
theorem sum_pos {zs : List Int} (h : ∀ x ∈ zs, 0 ≤ x) (hs : ∃ x ∈ zs, 0 < x) : 0 < sumL zs := by
  obtain ⟨x, hx, h0⟩ := hs
  have := mem_le_sum zs h x hx
  omega
theorem parts_zero (zs : List Int) (h : ∀ x ∈ zs, 0 ≤ x) : partsOf 0 zs = List.replicate zs.length 0 := by
  have h1 : qs 0 (sumL zs) zs = List.replicate zs.length 0 := by
    apply List.ext_getElem
    · simp [qs]
    · intro i h1 h2; simp [qs]
  have h2 : ∀ n, sumL (List.replicate n 0) = 0 := by
    intro n
    induction n with
    | zero => rfl
    | succ n ih => simp [List.replicate_succ, sumL, ih]
  rw [parts_bump]
  have h3 : (lft 0 zs).toNat = 0 := by unfold lft; rw [h1, h2]; rfl
  rw [h3, bump_zero, h1]

end Go.Proofs.YtdkabldhkgidjaaDoor
