/-
  A slice of structs of one-cell fields that came in, opened at every index. Of no program.
-/
import Derived.Test.YtdkabldhkgidjaaDoorIntsIn
import Derived.Deep.Slices
import Derived.ChangeSame
namespace Go.Proofs.YtdkabldhkgidjaaDoor
open Go.ChangeShapes Go.WideShapes Go.ChangeAt Go.RowKit Go.Deep
set_option linter.unusedVariables false
set_option linter.unusedSimpArgs false

theorem add_flat' (b o i : Nat) : ((⟨b, o, none⟩ : Addr).add i) = ⟨b, o + i, none⟩ := by unfold Addr.add; split <;> simp_all
theorem addr_spot {W : World} {x : Addr} {v : Value} (h : W.cell? x = some v) : x.spot = none := by
  obtain ⟨b, o, sp⟩ := x
  cases sp with
  | none => rfl
  | some s =>
    exfalso
    revert h
    unfold World.cell?
    simp
    repeat' split
    all_goals simp
/-- Fields one cell each, in their order. -/
def flatB (P : Program) (fs : Array Field) : Bool := (List.range fs.size).all fun j => match fs[j]? with
  | some f => f.offset == j && P.cellsOf f.type == 1
  | none => false
theorem flatB_get {P : Program} {fs : Array Field} (h : flatB P fs = true) {j : Nat} {f : Field} (hf : fs[j]? = some f) : f.offset = j ∧ P.cellsOf f.type = 1 := by
  unfold flatB at h
  rw [List.all_eq_true] at h
  have hj : j < fs.size := (Array.getElem?_eq_some_iff.1 hf).1
  have := h j (List.mem_range.2 hj)
  rw [hf] at this
  simpa using this
/-- The cells of a struct, each by its field's type. -/
theorem open_flat {H : Type} {enc : TypeId × Value → H} {P : Program} {W : World} {e : TypeId} {fs : Array Field} {s fuel : Nat} {cs : List Value} {x : DataW H × List MemPlace}
    (he : P.underlying e = some (.struct fs)) (ce : P.cellsOf e = s) (hs : fs.size = s) (hfl : flatB P fs = true) (h : DataW.trod enc P W 0 (fun _ => true) true fuel e cs = some x) :
    cs.length = s ∧ ∀ (j : Nat) (f : Field) v, fs[j]? = some f → cs[j]? = some v → ∃ n d p, DataW.trod enc P W 0 (fun _ => true) true n f.type [v] = some (d, p) := by
  obtain ⟨xs, n, hn, hx, hl, hxl, hf⟩ := DataW.trod_struct he h
  refine ⟨by rw [hl, ce], fun j f v hfj hv => ?_⟩
  obtain ⟨o1, c1⟩ := flatB_get hfl hfj
  have h1 := hf j f hfj
  have hj : j < cs.length := (List.getElem?_eq_some_iff.1 hv).1
  rw [o1, c1] at h1
  have e1 : (cs.drop j).take 1 = [v] := by
    rw [List.drop_eq_getElem_cons hj]
    have := (List.getElem?_eq_some_iff.1 hv).2
    simp [this]
  rw [e1] at h1
  have hxj : j < xs.length := by rw [hxl]; exact (Array.getElem?_eq_some_iff.1 hfj).1
  rw [List.getElem?_eq_getElem hxj] at h1
  exact ⟨n, xs[j].1, xs[j].2, h1⟩
theorem rows_in {H : Type} {enc : TypeId × Value → H} {P : Program} {W : World} {t e : TypeId} {fs : Array Field} {s : Nat} {a : Option Addr} {l c : Nat} {d : DataW H} {p : List MemPlace}
    (ht : P.underlying t = some (.slice e)) (he : P.underlying e = some (.struct fs)) (ce : P.cellsOf e = s) (hs : fs.size = s) (hs0 : 0 < s) (hfl : flatB P fs = true) (h : DataW.Trod enc P W 0 (fun _ => true) true t (.slice a l c) d p) :
    l ≤ 9223372036854775807 ∧ ∃ V : Nat → List Value, (∀ i, i < l → (V i).length = s) ∧ (0 < l → ∃ b o, a = some ⟨b, o, none⟩ ∧ b < W.heap.size ∧ ∀ i j v, i < l → (V i)[j]? = some v → W.cell? ⟨b, o + (i * s + j), none⟩ = some v) ∧
      ∀ (i j : Nat) (f : Field) v, i < l → fs[j]? = some f → (V i)[j]? = some v → ∃ n d p, DataW.trod enc P W 0 (fun _ => true) true n f.type [v] = some (d, p) := by
  obtain ⟨fuel, hf⟩ := h
  rcases open_slice ht hf with ⟨hcs, _⟩ | ⟨x, len, cap, m, n, D, Pl, hcs, _, hl, hm, hmm, _, hx⟩
  · simp [Value.cells] at hcs
    obtain ⟨rfl, rfl, rfl⟩ := hcs
    exact ⟨by omega, fun _ => [], fun i hi => by omega, fun h => by omega, fun i j f v hi => by omega⟩
  · simp [Value.cells] at hcs
    obtain ⟨rfl, rfl, rfl⟩ := hcs
    have hmc : m = c := by simpa using hmm
    have hex : ∀ i, ∃ cs : List Value, i < l → W.cells? 0 (x.add (i * P.cellsOf e)) (P.cellsOf e) = some cs ∧ DataW.trod enc P W 0 (fun _ => true) true n e cs = some (D i, Pl i) := fun i => by
      by_cases hi : i < l
      · obtain ⟨cs, h1, h2⟩ := hx i (by omega)
        exact ⟨cs, fun _ => ⟨h1, h2⟩⟩
      · exact ⟨[], fun h => absurd h hi⟩
    obtain ⟨V, hV⟩ := Classical.axiomOfChoice hex
    refine ⟨by simp only [maxLen] at hm; omega, V, fun i hi => ?_, fun h0 => ?_, fun i j f v hi hfj hv => ?_⟩
    · have := (World.cells?_some (hV i hi).1).2.1
      rw [this, ce]
    · obtain ⟨_, hlen, hcell⟩ := World.cells?_some (hV 0 h0).1
      have h1 := hcell 0 (by omega)
      have hv0 : 0 < (V 0).length := by rw [hlen, ce]; exact hs0
      rw [List.getElem?_eq_getElem hv0, Nat.zero_mul] at h1
      have hsp : x.spot = none := by
        have e1 : (x.add 0).add 0 = x := by cases x; simp [Addr.add]
        rw [e1] at h1
        exact addr_spot h1
      obtain ⟨b, o, sp⟩ := x
      simp only at hsp
      subst hsp
      rw [add_flat', add_flat'] at h1
      refine ⟨b, o, rfl, World.block_lt_of_cell? W _ h1, fun i j v hi hv => ?_⟩
      obtain ⟨_, hlen', hcell'⟩ := World.cells?_some (hV i hi).1
      have hj : j < (V i).length := (List.getElem?_eq_some_iff.1 hv).1
      have h2 := hcell' j (by omega)
      rw [add_flat', add_flat', hv, ce, Nat.add_assoc] at h2
      exact h2
    · obtain ⟨_, h2⟩ := open_flat he ce hs hfl (hV i hi).2
      exact h2 j f v hfj hv

end Go.Proofs.YtdkabldhkgidjaaDoor
