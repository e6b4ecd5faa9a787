/-
  share.may: its contract (without Add64).
-/
import Derived.Test.YtbcmaaoddnaoiaaDivW
namespace Go.Proofs.Ytbcmaaoddnaoiaa
set_option linter.unusedVariables false
set_option linter.unusedSimpArgs false
open Go.RowKit

set_option maxHeartbeats 400000 in
theorem c_may (n d : Int) (w : World) :
    Calls Try.prog 119 #[.agg #[.int .i64 n, .int .i64 d]] w fun e w' => e = .returned (.bool (decide (0 ≤ n ∧ 1 ≤ d))) ∧ Below w.heap.size w w' := by
  go_enter Try.func119, Try.ntmps119
  go_wp2
  all_goals (go_ret; refine ⟨ret_b (Bool.eq_iff_iff.2 (by simp; try omega)), ((Below.refl _ _).alloc (Nat.le_refl _) _)⟩)
theorem may_t (n d : Int) (h : 0 ≤ n) (h' : 1 ≤ d) : decide (0 ≤ n ∧ 1 ≤ d) = true := decide_eq_true ⟨h, h'⟩

end Go.Proofs.Ytbcmaaoddnaoiaa
