/-
  A slice of integers that came in reads as a list. Of no program.
-/
import Derived.Test.YtdkabldhkgidjaaDoorRow
import Derived.ProofKit
import Derived.OpenShut
import Derived.ShutString
import Derived.ChangeOld
namespace Go.Proofs.YtdkabldhkgidjaaDoor
open Go.ChangeShapes Go.WideShapes Go.ChangeAt Go.RowKit
set_option linter.unusedVariables false
set_option linter.unusedSimpArgs false

theorem ints_in {H : Type} {enc : TypeId × Value → H} {P : Program} {W : World} {t e : TypeId} {k : IntKind} {a : Option Addr} {l c : Nat} {d : DataW H} {p : List MemPlace}
    (ht : P.underlying t = some (.slice e)) (he : P.underlying e = some (.int k)) (hc : P.cellsOf e = 1) (h : DataW.Trod enc P W 0 (fun _ => true) true t (.slice a l c) d p) :
    ∃ zs : List Int, zs.length = l ∧ l ≤ 9223372036854775807 ∧ Rd W a (vals k zs) ∧ ∀ x ∈ zs, (Lit.int k x).wf = true := by
  obtain ⟨fuel, hf⟩ := h
  rcases open_ints ht he hc hf with ⟨hcs, _⟩ | ⟨x, l', c', zs, hcs, _, hl, hm, hz, _, hcell, hwz⟩
  · simp [Value.cells] at hcs
    obtain ⟨rfl, rfl, rfl⟩ := hcs
    exact ⟨[], rfl, by omega, Rd.nil _ _, by simp⟩
  · simp [Value.cells] at hcs
    obtain ⟨rfl, rfl, rfl⟩ := hcs
    have hz' : zs.length = c := by simpa using hz
    refine ⟨zs.take l, by simp; omega, by simp only [maxLen] at hm; omega, fun hx => ?_, fun y hy => hwz y (List.mem_of_mem_take hy)⟩
    have hl0 : 0 < l := by
      rcases Nat.eq_zero_or_pos l with h0 | h0
      · subst h0; simp [vals] at hx
      · exact h0
    have h0 := hcell 0 (by omega)
    obtain ⟨b, o, sp⟩ := x
    have hsp : sp = none := by
      cases sp with
      | none => rfl
      | some s => 
        simp only [Addr.add, World.cell?] at h0
        simp at h0
        split at h0 <;> simp at h0
    subst hsp
    refine ⟨b, o, rfl, World.block_lt_of_cell? W _ h0, fun j v hv => ?_⟩
    have hj : j < l := by
      have := (List.getElem?_eq_some_iff.1 hv).1
      simp [vals] at this; omega
    have h1 := hcell j (by omega)
    have e : ((⟨b, o, none⟩ : Addr).add j) = ⟨b, o + j, none⟩ := by unfold Addr.add; split <;> simp_all
    rw [e] at h1
    rw [h1]
    simp [vals, hj] at hv
    obtain ⟨y, hy, rfl⟩ := hv
    simp [hy]

end Go.Proofs.YtdkabldhkgidjaaDoor
