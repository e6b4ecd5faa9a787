/-
  The bounds of a number that came in. Of no program.
-/
import Derived.WalkKit
namespace Go.Proofs.Ytbcmaaoddnaoiaa
theorem bnd_u8 {t : Int} (h : (Lit.int .u8 t).wf = true) : 0 ≤ t ∧ t ≤ 255 := by
  simp [Lit.wf, IntKind.min, IntKind.max, IntKind.signed, IntKind.bits] at h; omega
theorem bnd_i8 {t : Int} (h : (Lit.int .i8 t).wf = true) : -128 ≤ t ∧ t ≤ 127 := by
  simp [Lit.wf, IntKind.min, IntKind.max, IntKind.signed, IntKind.bits] at h; omega
theorem bnd_i64 {t : Int} (h : (Lit.int .i64 t).wf = true) : -9223372036854775808 ≤ t ∧ t ≤ 9223372036854775807 := by
  simp [Lit.wf, IntKind.min, IntKind.max, IntKind.signed, IntKind.bits] at h; omega
end Go.Proofs.Ytbcmaaoddnaoiaa
