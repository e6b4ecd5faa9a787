/-
  A slice of interests that came in reads as a list.
-/
import Derived.Test.YtbcmaaoddnaoiaaIntr
import Derived.Test.YtbcmaaoddnaoiaaIntsIn
import Derived.Deep.SlicePairs
namespace Go.Proofs.Ytbcmaaoddnaoiaa
open Go.ChangeShapes Go.WideShapes Go.ChangeAt Go.RowKit Go.Deep
set_option linter.unusedVariables false
set_option linter.unusedSimpArgs false

def strV : Value → ByteArray
  | .string s => s
  | _ => ⟨#[]⟩
def intV : Value → Int
  | .int _ x => x
  | _ => 0
theorem add_flat (b o i : Nat) : ((⟨b, o, none⟩ : Addr).add i) = ⟨b, o + i, none⟩ := by unfold Addr.add; split <;> simp_all
theorem intrs_in {H : Type} {enc : TypeId × Value → H} {P : Program} {W : World} {t e : TypeId} {f0 f1 : Field} {a : Option Addr} {l c : Nat} {d : DataW H} {p : List MemPlace}
    (ht : P.underlying t = some (.slice e)) (he : P.underlying e = some (.struct #[f0, f1])) (ce : P.cellsOf e = 2) (o0 : f0.offset = 0) (o1 : f1.offset = 1) (c0 : P.cellsOf f0.type = 1) (c1 : P.cellsOf f1.type = 1)
    (u0 : P.underlying f0.type = some .string) (u1 : P.underlying f1.type = some (.int .i64)) (h : DataW.Trod enc P W 0 (fun _ => true) true t (.slice a l c) d p) :
    ∃ L : List (ByteArray × Int), L.length = l ∧ l ≤ 9223372036854775807 ∧ Rd W a (cellsI L) ∧ ∀ p ∈ L, p.1.size ≤ 9223372036854775807 ∧ (Lit.int .i64 p.2).wf = true := by
  obtain ⟨fuel, hf⟩ := h
  rcases open_slice_pairs ht he ce o0 o1 c0 c1 hf with ⟨hcs, _⟩ | ⟨x, len, cap, m, n, V0, V1, D0, D1, P0, P1, hcs, _, hl, hm, hmm, _, hx⟩
  · simp [Value.cells] at hcs
    obtain ⟨rfl, rfl, rfl⟩ := hcs
    exact ⟨[], rfl, by omega, Rd.nil _ _, by simp⟩
  · simp [Value.cells] at hcs
    obtain ⟨rfl, rfl, rfl⟩ := hcs
    have hmc : m = c := by simpa using hmm
    have hV : ∀ i, i < l → V0 i = .string (strV (V0 i)) ∧ (strV (V0 i)).size ≤ maxLen ∧ V1 i = .int .i64 (intV (V1 i)) ∧ (Lit.int .i64 (intV (V1 i))).wf = true := fun i hi => by
      obtain ⟨_, _, g0, g1⟩ := hx i (by omega)
      obtain ⟨s, hs, _, hsz⟩ := DataW.trod_string u0 g0
      obtain ⟨z, hz, _, hzw⟩ := DataW.trod_int u1 g1
      simp at hs hz
      rw [hs, hz]
      exact ⟨rfl, hsz, rfl, hzw⟩
    have hlm : l ≤ 9223372036854775807 := by simp only [maxLen] at hm; omega
    refine ⟨(List.range l).map fun i => (strV (V0 i), intV (V1 i)), by simp, hlm, fun hne => ?_, fun q hq => ?_⟩
    · have hl0 : 0 < l := by
        rcases Nat.eq_zero_or_pos l with h0 | h0
        · subst h0; simp [cellsI] at hne
        · exact h0
      have h0 := (hx 0 (by omega)).1
      obtain ⟨b, o, sp⟩ := x
      have hsp : sp = none := by
        cases sp with
        | none => rfl
        | some s =>
          simp only [Addr.add, World.cell?] at h0
          simp at h0
          split at h0 <;> simp at h0
      subst hsp
      refine ⟨b, o, rfl, World.block_lt_of_cell? W _ h0, fun j v hv => ?_⟩
      have hj := (List.getElem?_eq_some_iff.1 hv).1
      rw [cellsI_length] at hj
      have hj2 : j < l * 2 := by simpa using hj
      have ea : ∀ i, ((⟨b, o, none⟩ : Addr).add i) = ⟨b, o + i, none⟩ := fun i => add_flat b o i
      have hk : j / 2 < l := by omega
      have hg := cellsI_get ((List.range l).map fun i => (strV (V0 i), intV (V1 i))) (j / 2) (by simpa using hk)
      obtain ⟨d0, d1, _, _⟩ := hx (j / 2) (by omega)
      obtain ⟨v0, _, v1, _⟩ := hV (j / 2) hk
      rw [ea] at d0 d1
      rcases Nat.mod_two_eq_zero_or_one j with hp | hp
      · have ej : j = j / 2 * 2 := by omega
        rw [ej] at hv
        rw [hg.1] at hv
        rw [ej, d0, ← hv, v0]
        simp [strV]
      · have ej : j = j / 2 * 2 + 1 := by omega
        rw [ej] at hv
        rw [hg.2] at hv
        rw [ej, d1, ← hv, v1]
        simp [intV]
    · obtain ⟨i, hi, rfl⟩ := List.mem_map.1 hq
      have hi2 := List.mem_range.1 hi
      obtain ⟨_, h1, _, h2⟩ := hV i hi2
      exact ⟨by simp only [maxLen] at h1; omega, h2⟩

end Go.Proofs.Ytbcmaaoddnaoiaa
