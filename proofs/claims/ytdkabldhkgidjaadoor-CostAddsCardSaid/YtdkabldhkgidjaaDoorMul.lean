/-
  math/bits.Mul64 over Int.
-/
import Derived.Test.YtdkabldhkgidjaaDoorRows
import Derived.Test.YtdkabldhkgidjaaDoorShelf
import Derived.Test.YtdkabldhkgidjaaDoorMem
namespace Go.Proofs.YtdkabldhkgidjaaDoor
set_option linter.unusedVariables false
set_option linter.unusedSimpArgs false
open Go.RowKit

/-- math/bits.Mul64 over Int. -/
theorem c_mul64 (x y : Int) (w : World) (hx : 0 ≤ x) (hx' : x < 18446744073709551616) (hy : 0 ≤ y) (hy' : y < 18446744073709551616) :
    Calls Tryd.prog 48 #[.int .u64 x, .int .u64 y] w fun e w' => e = .returned (.tuple #[.int .u64 (x * y / 18446744073709551616), .int .u64 (x * y % 18446744073709551616)]) ∧ w = w' := by
  obtain ⟨m, rfl⟩ := Int.eq_ofNat_of_zero_le hx
  obtain ⟨n, rfl⟩ := Int.eq_ofNat_of_zero_le hy
  refine (Tryd.bits_Mul64 m n (by omega) (by omega) w).mono ?_
  rintro e w' ⟨rfl, rfl⟩
  refine ⟨?_, rfl⟩
  simp only [Int.natCast_ediv, Int.natCast_emod, Int.natCast_mul]
  rfl

end Go.Proofs.YtdkabldhkgidjaaDoor
