/-
  The law AverageOrder: its walk, whatever comes in.
-/
import Derived.Test.YtbcmaaoddnaoiaaLAOrder
import Derived.Test.YtbcmaaoddnaoiaaLAOrder2
import Derived.Test.YtbcmaaoddnaoiaaWf
namespace Go.Proofs.Ytbcmaaoddnaoiaa
set_option linter.unusedVariables false
set_option linter.unusedSimpArgs false
open Go.RowKit

theorem l_aorder (a : Option Addr) (n c : Nat) (L : List (ByteArray × Int)) (b : Option Addr) (m d : Nat) (gs : List Int) (spent fr nn : Int) (w : World) (hn : L.length = n) (hm : n ≤ 9223372036854775807) (hr : Rd w a (cellsI L)) (hs : ∀ p ∈ L, p.1.size ≤ 9223372036854775807 ∧ (Lit.int .i64 p.2).wf = true) (hg : gs.length = m) (hgm : m ≤ 9223372036854775807) (hb : Rd w b (vals .i64 gs)) (hgz : ∀ x ∈ gs, (Lit.int .i64 x).wf = true) (hsp : (Lit.int .i64 spent).wf = true) (hfr : (Lit.int .i64 fr).wf = true) (hnn : (Lit.int .i64 nn).wf = true) :
    Calls Try.prog 6 #[.slice a n c, .slice b m d, .int .i64 spent, .int .i64 fr, .int .i64 nn] w fun e w' => e = .returned (.bool true) ∧ Below w.heap.size w w' := by
  have hs' : ∀ p ∈ L, p.1.size ≤ 9223372036854775807 := fun p hp => (hs p hp).1
  by_cases h : orderOut L gs spent fr nn
  · exact l_aorder_out a b n c m d L gs spent fr nn w hn hm hr hs' hg hgm hb h
  · unfold orderOut at h
    simp only [not_or, Bool.not_eq_false, Int.not_lt, Int.not_le, ne_eq, Classical.not_not] at h
    obtain ⟨h1, h2, h3, h4, h5, h6, h7, h8, h9⟩ := h
    obtain ⟨k, rfl⟩ := Int.eq_ofNat_of_zero_le h3
    rw [hg, hn] at h2
    subst h2
    simp only [Int.toNat_natCast] at h5 h7
    rw [hg] at h1 h4
    have hk : k < m := by omega
    have hkL : k < L.length := by omega
    have hv := bnd_i64 (hs _ (List.getElem_mem hkL)).2
    exact l_aorder_in a b c m d k L gs spent nn w hn hr hs' hg hb h1 hk h5 h6 h7 h8 h9 (by rw [valsI_getD L k hkL]; omega)

end Go.Proofs.Ytbcmaaoddnaoiaa
