/-
  Lists whose elements lie in several cells each. Of no program.
-/
import Derived.Test.YtdkabldhkgidjaaDoorRowsIn
namespace Go.Proofs.YtdkabldhkgidjaaDoor
open Go.ChangeShapes Go.WideShapes Go.ChangeAt Go.RowKit Go.Deep
set_option linter.unusedVariables false
set_option linter.unusedSimpArgs false

/-- All elements' cells in a row. -/
def flat {α : Type} (f : α → List Value) : List α → List Value
  | [] => []
  | x :: r => f x ++ flat f r
section
variable {α : Type} {f : α → List Value} {s : Nat}
theorem flat_append (a b : List α) : flat f (a ++ b) = flat f a ++ flat f b := by
  induction a with
  | nil => rfl
  | cons x r ih => simp [flat, ih]
theorem flat_one (x : α) : flat f [x] = f x := by simp [flat]
theorem flat_length (hs : ∀ x, (f x).length = s) (L : List α) : (flat f L).length = L.length * s := by
  induction L with
  | nil => simp [flat]
  | cons p r ih => simp only [flat, List.length_append, List.length_cons, ih, hs]; rw [Nat.succ_mul]; omega
theorem flat_get (hs : ∀ x, (f x).length = s) (L : List α) (k j : Nat) (h : k < L.length) (hj : j < s) : (flat f L)[k * s + j]? = (f L[k])[j]? := by
  induction L generalizing k with
  | nil => simp at h
  | cons p r ih =>
    cases k with
    | zero =>
      have : j < (f p).length := by rw [hs]; exact hj
      simp only [flat, Nat.zero_mul, Nat.zero_add, List.getElem_cons_zero]
      exact List.getElem?_append_left this
    | succ k =>
      have e1 : (k + 1) * s + j = (f p).length + (k * s + j) := by rw [hs, Nat.succ_mul]; omega
      rw [e1]
      simp only [flat]
      rw [List.getElem?_append_right (by omega)]
      simpa using ih k (by simpa using h)
theorem flat_of (hs : ∀ x, (f x).length = s) (hs0 : 0 < s) (L : List α) (j : Nat) (v : Value) (h : (flat f L)[j]? = some v) : ∃ (k i : Nat) (hk : k < L.length), j = k * s + i ∧ i < s ∧ (f L[k])[i]? = some v := by
  have hj : j < L.length * s := by rw [← flat_length hs L]; exact (List.getElem?_eq_some_iff.1 h).1
  have hk : j / s < L.length := (Nat.div_lt_iff_lt_mul hs0).2 hj
  have hm := Nat.mod_lt j hs0
  have e := Nat.div_add_mod j s
  rw [Nat.mul_comm] at e
  refine ⟨j / s, j % s, hk, e.symm, hm, ?_⟩
  rw [← flat_get hs L (j / s) (j % s) hk hm, e]
  exact h
/-- Where an element lies. -/
theorem flat_at (hs : ∀ x, (f x).length = s) {w : World} {a : Option Addr} {L : List α} (h : Rd w a (flat f L)) (hs0 : 0 < s) (k : Nat) (hk : k < L.length) :
    ∃ b o, a = some ⟨b, o, none⟩ ∧ b < w.heap.size ∧ ∀ j v, (f L[k])[j]? = some v → w.cell? ⟨b, o + k * s + j, none⟩ = some v := by
  obtain ⟨b, o, e, hb, hr⟩ := h (by
    intro e
    have := flat_length hs L
    rw [e] at this
    have h2 := Nat.mul_le_mul hk (Nat.le_refl s)
    simp only [List.length_nil] at this
    rw [← this, Nat.succ_mul] at h2
    omega)
  exact ⟨b, o, e, hb, fun j v hv => by
    have hj : j < s := by rw [← hs L[k]]; exact (List.getElem?_eq_some_iff.1 hv).1
    rw [Nat.add_assoc]
    exact hr _ _ ((flat_get hs L k j hk hj).trans hv)⟩
theorem flat_set (hs : ∀ x, (f x).length = s) (L : List α) (k j : Nat) (h : k < L.length) (hj : j < s) (v : Value) (y : α) (hy : f y = (f L[k]).set j v) : (flat f L).set (k * s + j) v = flat f (L.set k y) := by
  induction L generalizing k with
  | nil => simp at h
  | cons p r ih =>
    cases k with
    | zero =>
      have hp : j < (f p).length := by rw [hs]; exact hj
      simp only [List.getElem_cons_zero] at hy
      simp only [flat, Nat.zero_mul, Nat.zero_add, List.set_cons_zero, hy]
      rw [List.set_append_left _ _ hp]
    | succ k =>
      have e1 : (k + 1) * s + j = (f p).length + (k * s + j) := by rw [hs, Nat.succ_mul]; omega
      rw [e1]
      simp only [flat, List.set_cons_succ]
      rw [List.set_append_right _ _ (by omega), Nat.add_sub_cancel_left, ih k (by simpa using h) (by simpa using hy)]
/-- A slice of structs of one-cell fields that came in reads as a list. -/
theorem flat_in {H : Type} {enc : TypeId × Value → H} {P : Program} {W : World} {t e : TypeId} {fs : Array Field} {a : Option Addr} {l c : Nat} {d : DataW H} {p : List MemPlace} (Q : α → Prop)
    (ht : P.underlying t = some (.slice e)) (he : P.underlying e = some (.struct fs)) (ce : P.cellsOf e = s) (hsz : fs.size = s) (hs0 : 0 < s) (hfl : flatB P fs = true) (hs : ∀ x, (f x).length = s)
    (hof : ∀ vs : List Value, vs.length = s → (∀ (j : Nat) (g : Field) v, fs[j]? = some g → vs[j]? = some v → ∃ n d p, DataW.trod enc P W 0 (fun _ => true) true n g.type [v] = some (d, p)) → ∃ x : α, f x = vs ∧ Q x)
    (h : DataW.Trod enc P W 0 (fun _ => true) true t (.slice a l c) d p) :
    ∃ L : List α, L.length = l ∧ l ≤ 9223372036854775807 ∧ Rd W a (flat f L) ∧ ∀ x ∈ L, Q x := by
  obtain ⟨hl, V, hV, hA, hF⟩ := rows_in ht he ce hsz hs0 hfl h
  rcases Nat.eq_zero_or_pos l with h0 | h0
  · subst h0
    exact ⟨[], rfl, hl, Rd.nil _ _, fun x hx => by cases hx⟩
  · obtain ⟨x0, _, _⟩ := hof (V 0) (hV 0 h0) (fun j g v hg hv => hF 0 j g v h0 hg hv)
    have hex : ∀ i, ∃ x : α, i < l → f x = V i ∧ Q x := fun i => by
      by_cases hi : i < l
      · obtain ⟨x, h1⟩ := hof (V i) (hV i hi) (fun j g v hg hv => hF i j g v hi hg hv)
        exact ⟨x, fun _ => h1⟩
      · exact ⟨x0, fun h => absurd h hi⟩
    obtain ⟨X, hX⟩ := Classical.axiomOfChoice hex
    refine ⟨(List.range l).map X, by simp, hl, fun hne => ?_, fun x hx => ?_⟩
    · obtain ⟨b, o, e, hb, hc⟩ := hA h0
      refine ⟨b, o, e, hb, fun j v hv => ?_⟩
      obtain ⟨k, i, hk, rfl, hi, hki⟩ := flat_of hs hs0 _ _ _ hv
      have hk2 : k < l := by simpa using hk
      simp only [List.getElem_map, List.getElem_range] at hki
      rw [(hX k hk2).1] at hki
      exact hc k i v hk2 hki
    · obtain ⟨i, hi, rfl⟩ := List.mem_map.1 hx
      exact (hX i (List.mem_range.1 hi)).2
end

end Go.Proofs.YtdkabldhkgidjaaDoor
