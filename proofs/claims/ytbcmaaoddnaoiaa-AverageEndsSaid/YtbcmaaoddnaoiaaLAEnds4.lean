/-
  The law AverageEnds: its walk, whatever comes in.
-/
import Derived.Test.YtbcmaaoddnaoiaaLAEnds2
import Derived.Test.YtbcmaaoddnaoiaaLAEnds3
namespace Go.Proofs.Ytbcmaaoddnaoiaa
set_option linter.unusedVariables false
set_option linter.unusedSimpArgs false
open Go.RowKit

theorem l_aends (a : Option Addr) (n c : Nat) (L : List (ByteArray × Int)) (w : World) (hn : L.length = n) (hm : n ≤ 9223372036854775807) (hr : Rd w a (cellsI L)) (hs : ∀ p ∈ L, p.1.size ≤ 9223372036854775807 ∧ (Lit.int .i64 p.2).wf = true) :
    Calls Try.prog 7 #[.slice a n c] w fun e w' => e = .returned (.bool true) ∧ Below w.heap.size w w' := by
  have hs' : ∀ p ∈ L, p.1.size ≤ 9223372036854775807 := fun p hp => (hs p hp).1
  cases hf : fewG L 0
  · exact l_aends_few a n c L w hn hm hr hs' hf
  · have h1 := fewG_len hf
    rw [hn] at h1
    cases hb : mayB L
    · exact l_aends_bad a n c L w hn (by omega) hr hs' hf hb
    · by_cases hS : sumL (valsI L) ≤ 1099511627776
      · exact l_aends_good a n c L w hn (by omega) hr hs' hf hb hS
      · exact l_aends_range a n c L w hn (by omega) hr hs' hf hb (by omega)

end Go.Proofs.Ytbcmaaoddnaoiaa
