/-
  cmp.Compare of unsigned numbers, cmp.Or.
-/
import Derived.Test.YtdkabldhkgidjaaDoorMul
import Derived.Test.YtdkabldhkgidjaaDoorNum
namespace Go.Proofs.YtdkabldhkgidjaaDoor
set_option linter.unusedVariables false
set_option linter.unusedSimpArgs false
open Go.RowKit

set_option maxHeartbeats 400000 in
theorem c_isNaN (n : Int) (w : World) : Calls Tryd.prog 70 #[.int .u64 n] w fun e w' => e = .returned (.bool false) ∧ w = w' := by
  go_enter Tryd.func70, Tryd.ntmps70
  go_wp2
  go_ret
  exact ⟨rfl, rfl⟩


set_option maxHeartbeats 400000 in
theorem c_cmpU (a b : Int) (w : World) : Calls Tryd.prog 53 #[.int .u64 a, .int .u64 b] w fun e w' => e = .returned (.int .i64 (sgn a b)) ∧ w = w' := by
  go_enter Tryd.func53, Tryd.ntmps53
  go_wp2_with (go_at_call 70; refine (c_isNaN _ _).mono ?_; rintro e w' ⟨rfl, rfl⟩)
  all_goals (go_ret; refine ⟨ret_i ?_, rfl⟩; unfold sgn; split <;> first | rfl | omega | (split <;> first | rfl | omega))

/-- The first that is not 0. -/
def or2 (a b : Int) : Int := if a = 0 then b else a
set_option maxHeartbeats 400000 in
theorem c_or (a b : Int) (w : World) (B : Nat) (h0 : w.cell? ⟨B, 0, none⟩ = some (.int .i64 a)) (h1 : w.cell? ⟨B, 1, none⟩ = some (.int .i64 b)) :
    Calls Tryd.prog 52 #[.slice (some ⟨B, 0, none⟩) 2 2] w fun e w' => e = .returned (.int .i64 (or2 a b)) ∧ w = w' := by
  unfold or2
  by_cases ha : a = 0
  · subst ha
    rw [if_pos rfl]
    by_cases hb : b = 0
    · subst hb
      go_enter Tryd.func52, Tryd.ntmps52
      go_wp2
      refine wp_loop_rounds 3 ?_
      iterate 3 (rw [rounds_succ]; go_wp2)
      go_ret
      exact ⟨rfl, rfl⟩
    · have hb' : (b == 0) = false := by simpa using hb
      have hb'' : (b != 0) = true := by simpa using hb
      clear hb
      go_enter Tryd.func52, Tryd.ntmps52
      go_wp2
      refine wp_loop_rounds 3 ?_
      iterate 2 (rw [rounds_succ]; go_wp2)
      go_ret
      exact ⟨rfl, rfl⟩
  · rw [if_neg ha]
    have hb' : (a == 0) = false := by simpa using ha
    have hb'' : (a != 0) = true := by simpa using ha
    clear ha
    go_enter Tryd.func52, Tryd.ntmps52
    go_wp2
    refine wp_loop_rounds 3 ?_
    iterate 1 (rw [rounds_succ]; go_wp2)
    go_ret
    exact ⟨rfl, rfl⟩

end Go.Proofs.YtdkabldhkgidjaaDoor
