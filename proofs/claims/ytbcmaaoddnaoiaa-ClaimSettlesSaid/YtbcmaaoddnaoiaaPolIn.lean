/-
  A slice of policies that came in reads as a list.
-/
import Derived.Test.YtbcmaaoddnaoiaaRowsIn
import Derived.Test.YtbcmaaoddnaoiaaPolSl
namespace Go.Proofs.Ytbcmaaoddnaoiaa
open Go.ChangeShapes Go.WideShapes Go.ChangeAt Go.RowKit Go.Deep
set_option linter.unusedVariables false
set_option linter.unusedSimpArgs false

/-- The numbers of a policy that came in. -/
def PolWf (p : Pol) : Prop := (Lit.int .i64 p.sum).wf = true ∧ (Lit.int .i64 p.own).wf = true ∧ (Lit.int .i64 p.first).wf = true ∧ (Lit.int .i64 p.last).wf = true ∧ (Lit.int .i64 p.share).wf = true
section
variable {H : Type} {enc : TypeId × Value → H} {W : World}
theorem in_string {n : Nat} {v : Value} {d : DataW H} {p : List MemPlace} (h : DataW.trod enc Try.prog W 0 (fun _ => true) true n 9 [v] = some (d, p)) : ∃ s : ByteArray, v = .string s ∧ s.size ≤ 9223372036854775807 := by
  obtain ⟨s, hs, _, hsz⟩ := DataW.trod_string Try.underlying9 h
  simp at hs
  exact ⟨s, hs, by simp only [maxLen] at hsz; omega⟩
theorem in_i64 {n : Nat} {v : Value} {d : DataW H} {p : List MemPlace} (h : DataW.trod enc Try.prog W 0 (fun _ => true) true n 2 [v] = some (d, p)) : ∃ z : Int, v = .int .i64 z ∧ (Lit.int .i64 z).wf = true := by
  obtain ⟨z, hz, _, hw⟩ := DataW.trod_int Try.underlying2 h
  simp at hz
  exact ⟨z, hz, hw⟩
theorem in_int {n : Nat} {v : Value} {d : DataW H} {p : List MemPlace} (h : DataW.trod enc Try.prog W 0 (fun _ => true) true n 3 [v] = some (d, p)) : ∃ z : Int, v = .int .i64 z ∧ (Lit.int .i64 z).wf = true := by
  obtain ⟨z, hz, _, hw⟩ := DataW.trod_int Try.underlying3 h
  simp at hz
  exact ⟨z, hz, hw⟩
theorem in_ints {n : Nat} {v : Value} {d : DataW H} {p : List MemPlace} (h : DataW.trod enc Try.prog W 0 (fun _ => true) true n 55 [v] = some (d, p)) :
    ∃ a l c, v = .slice a l c ∧ ∃ zs : List Int, zs.length = l ∧ l ≤ 9223372036854775807 ∧ Rd W a (vals .i64 zs) := by
  have hv : ∃ a l c, v = .slice a l c := by
    rcases open_slice Try.underlying55 h with ⟨hcs, _⟩ | ⟨x, len, cap, _, _, _, _, hcs, _⟩
    · simp at hcs; exact ⟨_, _, _, hcs⟩
    · simp at hcs; exact ⟨_, _, _, hcs⟩
  obtain ⟨a, l, c, rfl⟩ := hv
  obtain ⟨zs, h1, h2, h3, _⟩ := ints_in Try.underlying55 Try.underlying3 (by kernel_rfl) ⟨n, h⟩
  exact ⟨a, l, c, rfl, zs, h1, h2, h3⟩
theorem pol_of {fs : Array Field} {vs : List Value} (hf : Try.prog.underlying 57 = some (.struct fs)) (hl : vs.length = 9)
    (h : ∀ (j : Nat) (f : Field) v, fs[j]? = some f → vs[j]? = some v → ∃ n d p, DataW.trod enc Try.prog W 0 (fun _ => true) true n f.type [v] = some (d, p)) :
    ∃ p : Pol, p.cells = vs ∧ PolOk W p ∧ PolWf p := by
  rw [Try.underlying57] at hf
  injection hf with hf
  injection hf with hf
  subst hf
  match vs, hl with
  | [v0, v1, v2, v3, v4, v5, v6, v7, v8], _ =>
    obtain ⟨n0, d0, p0, g0⟩ := h 0 _ v0 rfl rfl
    obtain ⟨n1, d1, p1, g1⟩ := h 1 _ v1 rfl rfl
    obtain ⟨n2, d2, p2, g2⟩ := h 2 _ v2 rfl rfl
    obtain ⟨n3, d3, p3, g3⟩ := h 3 _ v3 rfl rfl
    obtain ⟨n4, d4, p4, g4⟩ := h 4 _ v4 rfl rfl
    obtain ⟨n5, d5, p5, g5⟩ := h 5 _ v5 rfl rfl
    obtain ⟨n6, d6, p6, g6⟩ := h 6 _ v6 rfl rfl
    obtain ⟨n7, d7, p7, g7⟩ := h 7 _ v7 rfl rfl
    obtain ⟨n8, d8, p8, g8⟩ := h 8 _ v8 rfl rfl
    obtain ⟨i, rfl, hi⟩ := in_string g0
    obtain ⟨f, rfl, hf⟩ := in_string g1
    obtain ⟨t, rfl, ht⟩ := in_string g2
    obtain ⟨sum, rfl, w3⟩ := in_i64 g3
    obtain ⟨own, rfl, w4⟩ := in_i64 g4
    obtain ⟨a, l, c, rfl, zs, z1, z2, z3⟩ := in_ints g5
    obtain ⟨first, rfl, w6⟩ := in_int g6
    obtain ⟨last, rfl, w7⟩ := in_int g7
    obtain ⟨share, rfl, w8⟩ := in_int g8
    exact ⟨⟨i, f, t, sum, own, a, l, c, zs, first, last, share⟩, rfl, ⟨hi, hf, ht, z1, z3, z2⟩, ⟨w3, w4, w6, w7, w8⟩⟩
theorem cellsP_of (L : List Pol) (j : Nat) (v : Value) (h : (cellsP L)[j]? = some v) : ∃ (k i : Nat) (hk : k < L.length), j = k * 9 + i ∧ L[k].cells[i]? = some v := by
  have hj : j < L.length * 9 := by rw [← cellsP_length]; exact (List.getElem?_eq_some_iff.1 h).1
  have hk : j / 9 < L.length := by omega
  refine ⟨j / 9, j % 9, hk, by omega, ?_⟩
  rw [← cellsP_get L (j / 9) (j % 9) hk (by omega), show j / 9 * 9 + j % 9 = j by omega]
  exact h
theorem pols_in {a : Option Addr} {l c : Nat} {d : DataW H} {p : List MemPlace} (h : DataW.Trod enc Try.prog W 0 (fun _ => true) true 51 (.slice a l c) d p) :
    ∃ L : List Pol, L.length = l ∧ l ≤ 9223372036854775807 ∧ Pols W a L ∧ ∀ p ∈ L, PolWf p := by
  obtain ⟨hl, V, hV, hA, hF⟩ := rows_in Try.underlying51 Try.underlying57 (show Try.prog.cellsOf 57 = 9 by kernel_rfl) rfl (by omega) (by kernel_rfl) h
  have hex : ∀ i, ∃ p : Pol, i < l → p.cells = V i ∧ PolOk W p ∧ PolWf p := fun i => by
    by_cases hi : i < l
    · obtain ⟨p, h1⟩ := pol_of (enc := enc) (W := W) Try.underlying57 (hV i hi) (fun j f v hf hv => hF i j f v hi hf hv)
      exact ⟨p, fun _ => h1⟩
    · exact ⟨⟨⟨#[]⟩, ⟨#[]⟩, ⟨#[]⟩, 0, 0, none, 0, 0, [], 0, 0, 0⟩, fun h => absurd h hi⟩
  obtain ⟨P, hP⟩ := Classical.axiomOfChoice hex
  refine ⟨(List.range l).map P, by simp, hl, ⟨fun hne => ?_, fun q hq => ?_⟩, fun q hq => ?_⟩
  · have h0 : 0 < l := by
      rcases Nat.eq_zero_or_pos l with h0 | h0
      · subst h0; simp [cellsP] at hne
      · exact h0
    obtain ⟨b, o, e, hb, hc⟩ := hA h0
    refine ⟨b, o, e, hb, fun j v hv => ?_⟩
    obtain ⟨k, i, hk, rfl, hki⟩ := cellsP_of _ _ _ hv
    have hk2 : k < l := by simpa using hk
    simp only [List.getElem_map, List.getElem_range] at hki
    rw [(hP k hk2).1] at hki
    exact hc k i v hk2 hki
  · obtain ⟨i, hi, rfl⟩ := List.mem_map.1 hq
    exact (hP i (List.mem_range.1 hi)).2.1
  · obtain ⟨i, hi, rfl⟩ := List.mem_map.1 hq
    exact (hP i (List.mem_range.1 hi)).2.2
end

end Go.Proofs.Ytbcmaaoddnaoiaa
