/-
  Rows of integers as cells. No program.
-/
import Derived.Test.YtdkabldhkgidjaaDoorRow
import Derived.Test.YtdkabldhkgidjaaDoorSplitNum
namespace Go.Proofs.YtdkabldhkgidjaaDoor
set_option linter.unusedVariables false
set_option linter.unusedSimpArgs false
open Go.RowKit

/-- Integers of the program's kinds from plain ones. -/
def rowN (l : List Nat) : Array Value := (l.map fun i : Nat => Value.int .i64 (i : Int)).toArray
def rowI (k : IntKind) (l : List Int) : Array Value := (l.map (Value.int k)).toArray
@[simp] theorem rowN_size (l : List Nat) : (rowN l).size = l.length := by simp [rowN]
@[simp] theorem rowI_size (k : IntKind) (l : List Int) : (rowI k l).size = l.length := by simp [rowI]
theorem rowN_get (l : List Nat) (i : Nat) (h : i < l.length) : (rowN l)[i]? = some (.int .i64 (l.getD i 0 : Nat)) := by
  simp [rowN, h]
theorem rowI_get (k : IntKind) (l : List Int) (i : Nat) (h : i < l.length) : (rowI k l)[i]? = some (.int k (l.getD i 0)) := by
  simp [rowI, h]


theorem Rd.blk' {w : World} {b : Nat} {t : TypeId} {k : IntKind} {l : List Int} (h : Blk w b t (rowI k l)) : Rd w (some ⟨b, 0, none⟩) (vals k l) := fun _ => by
  refine ⟨b, 0, rfl, h.lt, fun j v hv => ?_⟩
  rw [Nat.zero_add]
  exact h.cell j (by simpa [rowI, vals] using hv)

end Go.Proofs.YtdkabldhkgidjaaDoor
