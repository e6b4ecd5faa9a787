/-
  A policy by value, and a slice of draws, that came in.
-/
import Derived.Test.YtbcmaaoddnaoiaaPolIn
import Derived.Test.YtbcmaaoddnaoiaaDraws
import Derived.Lib.SmallJoins
namespace Go.Proofs.Ytbcmaaoddnaoiaa
open Go.ChangeShapes Go.WideShapes Go.ChangeAt Go.RowKit Go.Deep
set_option linter.unusedVariables false
set_option linter.unusedSimpArgs false

section
variable {H : Type} {enc : TypeId × Value → H} {W : World}
set_option maxRecDepth 100000 in
theorem pol_in {r : Reach} {b0 : Nat} {v : Value} {d : DataW H} {p : List MemPlace} (hv : Value.okWide Try.prog W r b0 57 v) (h : DataW.Trod enc Try.prog W 0 (fun _ => true) true 57 v d p) :
    ∃ q : Pol, v = q.v ∧ PolOk W q ∧ PolWf q := by
  obtain ⟨cs, rfl, hsz⟩ := okWide_struct Try.underlying57 hv
  obtain ⟨fuel, hf⟩ := h
  obtain ⟨hl, hx⟩ := open_flat Try.underlying57 (show Try.prog.cellsOf 57 = 9 by kernel_rfl) rfl (by kernel_rfl) hf
  obtain ⟨q, h1, h2, h3⟩ := pol_of (enc := enc) (W := W) Try.underlying57 hl hx
  refine ⟨q, ?_, h2, h3⟩
  have h4 : cs.toList = q.cells := by simpa [Value.cells] using h1.symm
  have h5 : cs = q.cells.toArray := by rw [← h4]
  rw [h5]
  rfl
theorem draw_of {fs : Array Field} {vs : List Value} (hf : Try.prog.underlying 149 = some (.struct fs)) (hl : vs.length = 2)
    (h : ∀ (j : Nat) (f : Field) v, fs[j]? = some f → vs[j]? = some v → ∃ n d p, DataW.trod enc Try.prog W 0 (fun _ => true) true n f.type [v] = some (d, p)) :
    ∃ q : Int × Int, cellsW [q] = vs := by
  rw [Try.underlying149] at hf
  injection hf with hf
  injection hf with hf
  subst hf
  match vs, hl with
  | [v0, v1], _ =>
    obtain ⟨n0, d0, p0, g0⟩ := h 0 _ v0 rfl rfl
    obtain ⟨n1, d1, p1, g1⟩ := h 1 _ v1 rfl rfl
    obtain ⟨x, rfl, w0⟩ := in_int g0
    obtain ⟨y, rfl, w1⟩ := in_i64 g1
    exact ⟨(x, y), rfl⟩
theorem cellsW_of (L : List (Int × Int)) (j : Nat) (v : Value) (h : (cellsW L)[j]? = some v) : ∃ (k i : Nat) (hk : k < L.length), j = k * 2 + i ∧ (cellsW [L[k]])[i]? = some v := by
  have hj : j < L.length * 2 := by rw [← cellsW_length]; exact (List.getElem?_eq_some_iff.1 h).1
  have hk : j / 2 < L.length := by omega
  have hg := cellsW_get L (j / 2) hk
  have hm : j % 2 = 0 ∨ j % 2 = 1 := by omega
  refine ⟨j / 2, j % 2, hk, by omega, ?_⟩
  rcases hm with hm | hm
  · rw [hm]
    have e : j = j / 2 * 2 := by omega
    rw [e, hg.1] at h
    rw [← h]
    rfl
  · rw [hm]
    have e : j = j / 2 * 2 + 1 := by omega
    rw [e, hg.2] at h
    rw [← h]
    rfl
theorem draws_in {a : Option Addr} {l c : Nat} {d : DataW H} {p : List MemPlace} (h : DataW.Trod enc Try.prog W 0 (fun _ => true) true 87 (.slice a l c) d p) :
    ∃ L : List (Int × Int), L.length = l ∧ l ≤ 9223372036854775807 ∧ Rd W a (cellsW L) := by
  obtain ⟨hl, V, hV, hA, hF⟩ := rows_in Try.underlying87 Try.underlying149 (show Try.prog.cellsOf 149 = 2 by kernel_rfl) rfl (by omega) (by kernel_rfl) h
  have hex : ∀ i, ∃ q : Int × Int, i < l → cellsW [q] = V i := fun i => by
    by_cases hi : i < l
    · obtain ⟨q, h1⟩ := draw_of (enc := enc) (W := W) Try.underlying149 (hV i hi) (fun j f v hf hv => hF i j f v hi hf hv)
      exact ⟨q, fun _ => h1⟩
    · exact ⟨(0, 0), fun h => absurd h hi⟩
  obtain ⟨P, hP⟩ := Classical.axiomOfChoice hex
  refine ⟨(List.range l).map P, by simp, hl, fun hne => ?_⟩
  have h0 : 0 < l := by
    rcases Nat.eq_zero_or_pos l with h0 | h0
    · subst h0; simp [cellsW] at hne
    · exact h0
  obtain ⟨b, o, e, hb, hc⟩ := hA h0
  refine ⟨b, o, e, hb, fun j v hv => ?_⟩
  obtain ⟨k, i, hk, rfl, hki⟩ := cellsW_of _ _ _ hv
  have hk2 : k < l := by simpa using hk
  simp only [List.getElem_map, List.getElem_range] at hki
  rw [hP k hk2] at hki
  exact hc k i v hk2 hki
end

end Go.Proofs.Ytbcmaaoddnaoiaa
