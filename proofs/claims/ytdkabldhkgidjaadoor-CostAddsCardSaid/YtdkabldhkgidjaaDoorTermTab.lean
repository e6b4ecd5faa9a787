/-
  What the row's condition gives of the table of the terms.
-/
import Derived.Test.YtdkabldhkgidjaaDoorTerm
import Derived.LaidLaws
import Derived.ChangeArms
import Derived.LaidMore
import Derived.OpenShut
import Derived.Lib.SmallJoins
import Derived.Lib.LaidTab
namespace Go.Proofs.YtdkabldhkgidjaaDoor
open Go.ChangeShapes Go.WideShapes Go.ChangeAt Go.RowKit
set_option linter.unusedVariables false
set_option linter.unusedSimpArgs false

set_option maxRecDepth 100000 in
/-- One term's cells. -/
theorem term_row {H : Type} {enc : TypeId × Value → H} {W : World} {base : Nat} {sp : Nat → Bool} {held : Bool} {fuel : Nat} {cs : List Value} {nm : List UInt8} {co ri : Int} {d3 : DataW H} {p : List MemPlace}
    (h : DataW.trod enc Tryd.prog W base sp held fuel 70 cs = some (.agg [.lit (.string nm), .lit (.int .i64 co), .lit (.int .i64 ri), d3], p)) :
    ∃ (s : ByteArray) (a : Option Addr) (n c : Nat), s.data.toList = nm ∧ cs = [.string s, .int .i64 co, .int .i64 ri, .slice a n c] := by
  obtain ⟨xs, n, hn, hx, hl, hxl, hf⟩ := DataW.trod_struct Tryd.underlying70 h
  rw [show Tryd.prog.cellsOf 70 = 4 by kernel_rfl] at hl
  match cs, hl with
  | [v0, v1, v2, v3], _ =>
    have e := congrArg Prod.fst hx
    injection e with e
    match xs, hxl with
    | [y0, y1, y2, y3], _ =>
      simp only [List.map_cons, List.map_nil, List.cons.injEq, and_true] at e
      obtain ⟨e0, e1, e2, e3⟩ := e
      have h0 : DataW.trod enc Tryd.prog W base sp held n 9 (([v0, v1, v2, v3].drop 0).take (Tryd.prog.cellsOf 9)) = some y0 := hf 0 _ rfl
      have h1 : DataW.trod enc Tryd.prog W base sp held n 3 (([v0, v1, v2, v3].drop 1).take (Tryd.prog.cellsOf 3)) = some y1 := hf 1 _ rfl
      have h2 : DataW.trod enc Tryd.prog W base sp held n 3 (([v0, v1, v2, v3].drop 2).take (Tryd.prog.cellsOf 3)) = some y2 := hf 2 _ rfl
      have h3 : DataW.trod enc Tryd.prog W base sp held n 68 (([v0, v1, v2, v3].drop 3).take (Tryd.prog.cellsOf 68)) = some y3 := hf 3 _ rfl
      rw [show Tryd.prog.cellsOf 9 = 1 by kernel_rfl] at h0
      rw [show Tryd.prog.cellsOf 3 = 1 by kernel_rfl] at h1 h2
      rw [show Tryd.prog.cellsOf 68 = 1 by kernel_rfl] at h3
      obtain ⟨s, c0, z0, _⟩ := DataW.trod_string Tryd.underlying9 h0
      obtain ⟨i1, c1, z1, _⟩ := DataW.trod_int Tryd.underlying3 h1
      obtain ⟨i2, c2, z2, _⟩ := DataW.trod_int Tryd.underlying3 h2
      have h3' : DataW.trod enc Tryd.prog W base sp held n 68 [v3] = some y3 := h3
      have c3 : ∃ a m c, v3 = .slice a m c := by
        cases n with
        | zero => simp [DataW.trod] at h3'
        | succ n =>
          unfold DataW.trod at h3'
          rw [Tryd.underlying68] at h3'
          cases v3 <;> simp at h3'
          exact ⟨_, _, _, rfl⟩
      obtain ⟨a, m, c, rfl⟩ := c3
      simp at c0 c1 c2
      subst c0 c1 c2
      rw [z0] at e0
      rw [z1] at e1
      rw [z2] at e2
      injection e0 with e0
      injection e0 with e0
      injection e1 with e1
      injection e1 with _ e1
      injection e2 with e2
      injection e2 with _ e2
      subst e1 e2
      exact ⟨s, a, m, c, e0.symm, rfl⟩
theorem bytes_mk {s : ByteArray} {l : List UInt8} (h : s.data.toList = l) : s = ⟨l.toArray⟩ := by
  cases s with
  | mk d =>
    simp only at h
    rw [← h]
set_option maxRecDepth 100000 in
/-- The table, from the condition. -/
theorem terms_tab {W : World} {rest : List (String × DataW Unit)} (h : laidMet Tryd.prog (("supercargo/term.terms", Rows.laid_supercargo_term_terms) :: rest) W) : Tab W := by
  obtain ⟨ps, ⟨g, t, cs, fuel, p, q, hg, ht, hvar, hd, _, _⟩, _⟩ := h
  obtain rfl : 0 = g := Option.some.inj ((show Tryd.prog.globalNamed "supercargo/term.terms" = some 0 by kernel_rfl).symm.trans hg)
  obtain rfl : 92 = t := Option.some.inj ((show (Tryd.prog.globals[0]?).map (·.type) = some 92 by kernel_rfl).symm.trans ht)
  obtain ⟨xs, m, hm, hx, hl, hxl, hf⟩ := DataW.trod_array Tryd.underlying92 hd
  have hce : Tryd.prog.cellsOf 70 = 4 := by kernel_rfl
  have hct : Tryd.prog.cellsOf 92 = 32 := by kernel_rfl
  rw [hct] at hl
  have hcell := fun i => World.var?_cell hg hvar i
  have e := congrArg Prod.fst hx
  unfold Rows.laid_supercargo_term_terms at e
  injection e with e
  have hrow : ∀ k, k < 8 → ∃ (nm : List UInt8) (co ri : Int) (d3 : DataW Unit), (xs.map (·.1))[k]? = some (.agg [.lit (.string nm), .lit (.int .i64 co), .lit (.int .i64 ri), d3]) ∧ tnames.getD k ⟨#[]⟩ = ⟨nm.toArray⟩ ∧ tcosts.getD k 0 = co ∧ trisks.getD k 0 = ri := by
    rw [← e]
    intro k hk
    match k, hk with
    | 0, _ => exact ⟨_, _, _, _, rfl, rfl, rfl, rfl⟩
    | 1, _ => exact ⟨_, _, _, _, rfl, rfl, rfl, rfl⟩
    | 2, _ => exact ⟨_, _, _, _, rfl, rfl, rfl, rfl⟩
    | 3, _ => exact ⟨_, _, _, _, rfl, rfl, rfl, rfl⟩
    | 4, _ => exact ⟨_, _, _, _, rfl, rfl, rfl, rfl⟩
    | 5, _ => exact ⟨_, _, _, _, rfl, rfl, rfl, rfl⟩
    | 6, _ => exact ⟨_, _, _, _, rfl, rfl, rfl, rfl⟩
    | 7, _ => exact ⟨_, _, _, _, rfl, rfl, rfl, rfl⟩
  intro k hk
  obtain ⟨nm, co, ri, d3, hxk, en, ec, er⟩ := hrow k hk
  rw [List.getElem?_map] at hxk
  obtain ⟨y, hy, hy2⟩ := Option.map_eq_some_iff.1 hxk
  have h1 := hf k hk
  rw [hce, hy] at h1
  obtain ⟨d, pp⟩ := y
  simp only at hy2
  subst hy2
  obtain ⟨s, a, n, c, hs, hcs⟩ := term_row h1
  have hg4 : ∀ j v, j < 4 → ([Value.string s, .int .i64 co, .int .i64 ri, .slice a n c])[j]? = some v → W.cell? ⟨0, k * 4 + j, none⟩ = some v := by
    intro j v hj hv
    rw [hcell, ← hv, ← hcs, List.getElem?_take, if_pos hj, List.getElem?_drop]
    simp
  rw [en, ec, er]
  refine ⟨?_, hg4 1 _ (by omega) rfl, hg4 2 _ (by omega) rfl, a, n, c, hg4 3 _ (by omega) rfl⟩
  have := hg4 0 _ (by omega) rfl
  rw [Nat.add_zero] at this
  rw [this, bytes_mk hs]

end Go.Proofs.YtdkabldhkgidjaaDoor
