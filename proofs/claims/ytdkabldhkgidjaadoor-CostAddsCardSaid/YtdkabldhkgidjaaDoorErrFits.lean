/-
  When weights may be shared by. Of no program.
-/
import Derived.Test.YtdkabldhkgidjaaDoorWrong
import Derived.Test.YtdkabldhkgidjaaDoorSplitNum
namespace Go.Proofs.YtdkabldhkgidjaaDoor
set_option linter.unusedVariables false
set_option linter.unusedSimpArgs false
open Go.RowKit

theorem errS_fits {zs : List Int} (hz : ∀ x ∈ zs, 0 ≤ x ∧ x ≤ 1099511627776) (h1 : 1 ≤ zs.length) (h2 : zs.length ≤ 4096) (T : Int) (hT : 0 ≤ T) (hp : 0 < T → ∃ x ∈ zs, 0 < x) : errS T zs = if 1099511627776 < T then 3 else 0 := by
  have b1 : (zs.any fun x => decide (x < 0)) = false := by
    simp only [List.any_eq_false, decide_eq_true_eq]
    intro x hx
    have := (hz x hx).1
    omega
  have b2 : (zs.any fun x => decide (1099511627776 < x)) = false := by
    simp only [List.any_eq_false, decide_eq_true_eq]
    intro x hx
    have := (hz x hx).2
    omega
  unfold errS errV
  rw [b1, b2, if_neg (by rintro (h | h | h) <;> first | omega | cases h)]
  by_cases h : 1099511627776 < T
  · rw [if_pos (.inl h), if_pos h]
  · rw [if_neg (by rintro (h3 | h3 | h3) <;> first | omega | cases h3), if_neg h, if_neg]
    rintro ⟨h3, h4⟩
    obtain ⟨x, hx, hx0⟩ := hp h3
    simp only [List.any_eq_false, decide_eq_true_eq] at h4
    exact h4 x hx hx0
theorem sum_posex {zs : List Int} (h : 0 < sumL zs) : ∃ x ∈ zs, 0 < x := by
  induction zs with
  | nil => simp [sumL] at h
  | cons y r ih =>
    by_cases hy : 0 < y
    · exact ⟨y, by simp, hy⟩
    · simp only [sumL] at h
      obtain ⟨x, hx, h2⟩ := ih (by omega)
      exact ⟨x, by simp [hx], h2⟩

end Go.Proofs.YtdkabldhkgidjaaDoor
