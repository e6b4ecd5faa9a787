/-
  A step of Euclid.
-/
import Derived.Test.YtagdibogjlmgmabMem
namespace Go.Proofs.Ytagdibogjlmgmab
set_option linter.unusedVariables false
set_option linter.unusedSimpArgs false
open Go.RowKit

theorem gcd_step (p q : Int) (hp : 0 ≤ p) (hq : 0 ≤ q) : Int.gcd q (p % q) = Int.gcd p q := by
  obtain ⟨m, rfl⟩ := Int.eq_ofNat_of_zero_le hp
  obtain ⟨n, rfl⟩ := Int.eq_ofNat_of_zero_le hq
  show Nat.gcd n (m % n) = Nat.gcd m n
  rw [Nat.gcd_comm, ← Nat.gcd_rec, Nat.gcd_comm]

end Go.Proofs.Ytagdibogjlmgmab
