/-
  The rows that are made whole.
-/
import Derived.Test.YtdkabldhkgidjaaDoorRowI
import Derived.Test.YtdkabldhkgidjaaDoorRows
import Derived.Deep.OwnRows
namespace Go.Proofs.YtdkabldhkgidjaaDoor
set_option linter.unusedVariables false
set_option linter.unusedSimpArgs false
open Go.RowKit

def zer (k : IntKind) (n : Nat) : Array Value := rowI k (List.replicate n 0)
theorem made_zer (k : IntKind) (n : Nat) : madeCells #[.int k 0] n = zer k n := by
  apply Array.ext'
  rw [toList_madeCells_one]
  simp [zer, rowI]
theorem mk38 (n : Nat) (hn : n ≤ 4096) (w : World) : (Instr.makeSlice 37 (.int .i64 (n : Int)) (.int .i64 (n : Int))).run Tryd.prog w = .ok (.slice (some ⟨w.heap.size, 0, none⟩) n n) (w.alloc (.cells (zer .i64 n) 2)) := by
  rw [← made_zer]
  exact run_make_row' 37 2 (.int .i64 0) 8 (by kernel_rfl) (by kernel_rfl) rfl .i64 .i64 n (by omega) (by omega) w
theorem mk72 (n : Nat) (hn : n ≤ 4096) (w : World) : (Instr.makeSlice 82 (.int .i64 (n : Int)) (.int .i64 (n : Int))).run Tryd.prog w = .ok (.slice (some ⟨w.heap.size, 0, none⟩) n n) (w.alloc (.cells (zer .u64 n) 81)) := by
  rw [← made_zer]
  exact run_make_row' 82 81 (.int .u64 0) 8 (by kernel_rfl) (by kernel_rfl) rfl .i64 .i64 n (by omega) (by omega) w
theorem mk73 (n : Nat) (hn : n ≤ 4096) (w : World) : (Instr.makeSlice 68 (.int .i64 (n : Int)) (.int .i64 (n : Int))).run Tryd.prog w = .ok (.slice (some ⟨w.heap.size, 0, none⟩) n n) (w.alloc (.cells (zer .i64 n) 3)) := by
  rw [← made_zer]
  exact run_make_row' 68 3 (.int .i64 0) 8 (by kernel_rfl) (by kernel_rfl) rfl .i64 .i64 n (by omega) (by omega) w

end Go.Proofs.YtdkabldhkgidjaaDoor
