/-
  Costs and orders that came in.
-/
import Derived.Test.YtdkabldhkgidjaaDoorOrd2
import Derived.Test.YtdkabldhkgidjaaDoorCost1
import Derived.Lib.SmallJoins
import Derived.Deep.Slices
namespace Go.Proofs.YtdkabldhkgidjaaDoor
open Go.ChangeShapes Go.WideShapes Go.ChangeAt Go.RowKit Go.Deep
set_option linter.unusedVariables false
set_option linter.unusedSimpArgs false

section
variable {H : Type} {enc : TypeId × Value → H} {W : World}
theorem in_string {n : Nat} {v : Value} {d : DataW H} {p : List MemPlace} (h : DataW.trod enc Tryd.prog W 0 (fun _ => true) true n 9 [v] = some (d, p)) : ∃ s : ByteArray, v = .string s ∧ s.size ≤ 9223372036854775807 := by
  obtain ⟨s, hs, _, hsz⟩ := DataW.trod_string Tryd.underlying9 h
  simp at hs
  exact ⟨s, hs, by simp only [maxLen] at hsz; omega⟩
theorem in_i64 {n : Nat} {v : Value} {d : DataW H} {p : List MemPlace} (h : DataW.trod enc Tryd.prog W 0 (fun _ => true) true n 2 [v] = some (d, p)) : ∃ z : Int, v = .int .i64 z ∧ (Lit.int .i64 z).wf = true := by
  obtain ⟨z, hz, _, hw⟩ := DataW.trod_int Tryd.underlying2 h
  simp at hz
  exact ⟨z, hz, hw⟩
theorem in_int {n : Nat} {v : Value} {d : DataW H} {p : List MemPlace} (h : DataW.trod enc Tryd.prog W 0 (fun _ => true) true n 3 [v] = some (d, p)) : ∃ z : Int, v = .int .i64 z ∧ (Lit.int .i64 z).wf = true := by
  obtain ⟨z, hz, _, hw⟩ := DataW.trod_int Tryd.underlying3 h
  simp at hz
  exact ⟨z, hz, hw⟩
theorem slice_cap {P : Program} {t e : TypeId} {a : Option Addr} {l c : Nat} {d : DataW H} {p : List MemPlace} (ht : P.underlying t = some (.slice e)) (h : DataW.Trod enc P W 0 (fun _ => true) true t (.slice a l c) d p) : l ≤ c := by
  obtain ⟨fuel, hf⟩ := h
  rcases open_slice ht hf with ⟨hcs, _⟩ | ⟨x, len, cap, m, n, D, Pl, hcs, _, hl, _⟩
  · simp [Value.cells] at hcs
    omega
  · simp [Value.cells] at hcs
    omega
set_option maxRecDepth 100000 in
theorem costs_in {a : Option Addr} {l c : Nat} {d : DataW H} {p : List MemPlace} (h : DataW.Trod enc Tryd.prog W 0 (fun _ => true) true 22 (.slice a l c) d p) :
    ∃ L : List Cst, L.length = l ∧ l ≤ 9223372036854775807 ∧ Rd W a (flat cC L) ∧ ∀ x ∈ L, CstOk x := by
  refine flat_in CstOk Tryd.underlying22 Tryd.underlying55 (show Tryd.prog.cellsOf 55 = 3 by kernel_rfl) rfl (by omega) (by kernel_rfl) cC_length ?_ h
  intro vs hl hf
  match vs, hl with
  | [v0, v1, v2], _ =>
    obtain ⟨n0, d0, p0, g0⟩ := hf 0 _ v0 rfl rfl
    obtain ⟨n1, d1, p1, g1⟩ := hf 1 _ v1 rfl rfl
    obtain ⟨n2, d2, p2, g2⟩ := hf 2 _ v2 rfl rfl
    obtain ⟨s, rfl, hs⟩ := in_string g0
    obtain ⟨x, rfl, w1⟩ := in_int g1
    obtain ⟨y, rfl, w2⟩ := in_i64 g2
    exact ⟨⟨s, x, y⟩, rfl, hs⟩
set_option maxRecDepth 100000 in
theorem lines_in {a : Option Addr} {l c : Nat} {d : DataW H} {p : List MemPlace} (h : DataW.Trod enc Tryd.prog W 0 (fun _ => true) true 31 (.slice a l c) d p) :
    ∃ L : List Lne, L.length = l ∧ l ≤ 9223372036854775807 ∧ Rd W a (flat cN L) ∧ ∀ x ∈ L, x.g.size ≤ 9223372036854775807 := by
  refine flat_in (fun x => x.g.size ≤ 9223372036854775807) Tryd.underlying31 Tryd.underlying44 (show Tryd.prog.cellsOf 44 = 3 by kernel_rfl) rfl (by omega) (by kernel_rfl) cN_length ?_ h
  intro vs hl hf
  match vs, hl with
  | [v0, v1, v2], _ =>
    obtain ⟨n0, d0, p0, g0⟩ := hf 0 _ v0 rfl rfl
    obtain ⟨n1, d1, p1, g1⟩ := hf 1 _ v1 rfl rfl
    obtain ⟨n2, d2, p2, g2⟩ := hf 2 _ v2 rfl rfl
    obtain ⟨s, rfl, hs⟩ := in_string g0
    obtain ⟨x, rfl, w1⟩ := in_int g1
    obtain ⟨y, rfl, w2⟩ := in_i64 g2
    exact ⟨⟨s, x, y⟩, rfl, hs⟩
set_option maxRecDepth 100000 in
/-- An order that came in: as it may be, if its lines are few. -/
theorem ord_in {r : Reach} {b0 : Nat} {v : Value} {d : DataW H} {p : List MemPlace} (hv : Value.okWide Tryd.prog W r b0 33 v) (h : DataW.Trod enc Tryd.prog W 0 (fun _ => true) true 33 v d p) :
    ∃ o : Ord, v = o.v ∧ (o.ln ≤ 1048576 → OrdOk W o) ∧ o.ln ≤ 9223372036854775807 ∧ (Lit.int .i64 o.term).wf = true := by
  obtain ⟨cs, rfl, hsz⟩ := okWide_struct Tryd.underlying33 hv
  obtain ⟨fuel, hf⟩ := h
  obtain ⟨hl, hx⟩ := open_flat Tryd.underlying33 (show Tryd.prog.cellsOf 33 = 8 by kernel_rfl) rfl (by kernel_rfl) hf
  obtain ⟨vs⟩ := cs
  have hl' : vs.length = 8 := by simpa [Value.cells] using hl
  have hx' : ∀ (j : Nat) (f : Field) (v : Value), (_ : Array Field)[j]? = some f → vs[j]? = some v → _ := fun j f v h1 h2 => hx j f v h1 (by simpa [Value.cells] using h2)
  clear hx hl hf hsz hv
  match vs, hl' with
  | [v0, v1, v2, v3, v4, v5, v6, v7], _ =>
    obtain ⟨n0, d0, p0, g0⟩ := hx' 0 _ v0 rfl rfl
    obtain ⟨n1, d1, p1, g1⟩ := hx' 1 _ v1 rfl rfl
    obtain ⟨n2, d2, p2, g2⟩ := hx' 2 _ v2 rfl rfl
    obtain ⟨n3, d3, p3, g3⟩ := hx' 3 _ v3 rfl rfl
    obtain ⟨n4, d4, p4, g4⟩ := hx' 4 _ v4 rfl rfl
    obtain ⟨n5, d5, p5, g5⟩ := hx' 5 _ v5 rfl rfl
    obtain ⟨n6, d6, p6, g6⟩ := hx' 6 _ v6 rfl rfl
    obtain ⟨n7, d7, p7, g7⟩ := hx' 7 _ v7 rfl rfl
    obtain ⟨s0, rfl, h0⟩ := in_string g0
    obtain ⟨s1, rfl, h1⟩ := in_string g1
    obtain ⟨s2, rfl, h2⟩ := in_string g2
    obtain ⟨s3, rfl, h3⟩ := in_string g3
    obtain ⟨s4, rfl, h4⟩ := in_string g4
    obtain ⟨s5, rfl, h5⟩ := in_string g5
    obtain ⟨t, rfl, w6⟩ := in_int g6
    have hv7 : ∃ a l c, v7 = .slice a l c := by
      rcases open_slice Tryd.underlying31 g7 with ⟨hcs, _⟩ | ⟨x, len, cap, _, _, _, _, hcs, _⟩
      · simp at hcs; exact ⟨_, _, _, hcs⟩
      · simp at hcs; exact ⟨_, _, _, hcs⟩
    obtain ⟨a, l, c, rfl⟩ := hv7
    obtain ⟨L, q1, q2, q3, q4⟩ := lines_in ⟨n7, g7⟩
    have hc := slice_cap Tryd.underlying31 (show DataW.Trod enc Tryd.prog W 0 (fun _ => true) true 31 (.slice a l c) _ _ from ⟨n7, g7⟩)
    exact ⟨⟨s0, s1, s2, s3, s4, s5, t, a, l, c, L⟩, rfl, fun hm => ⟨h0, h1, h2, h3, h4, h5, q1, hm, hc, q3, q4⟩, q2, w6⟩
end

end Go.Proofs.YtdkabldhkgidjaaDoor
