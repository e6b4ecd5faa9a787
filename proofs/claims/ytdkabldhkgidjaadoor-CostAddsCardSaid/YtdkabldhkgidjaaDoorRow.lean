/-
  A slice that reads as a list of values, of no program.
-/
import Derived.Test.YtdkabldhkgidjaaDoorMem
namespace Go.Proofs.YtdkabldhkgidjaaDoor
set_option linter.unusedVariables false
set_option linter.unusedSimpArgs false
open Go.RowKit

/-- The slice at a reads as xs: nothing is asked where there is no element. -/
def Rd (w : World) (a : Option Addr) (xs : List Value) : Prop :=
  xs ≠ [] → ∃ b o, a = some ⟨b, o, none⟩ ∧ b < w.heap.size ∧ ∀ j v, xs[j]? = some v → w.cell? ⟨b, o + j, none⟩ = some v

theorem Rd.nil (w : World) (a : Option Addr) : Rd w a [] := fun h => absurd rfl h
theorem Rd.keep {w w' : World} {a : Option Addr} {xs : List Value} (h : Rd w a xs) (hs : w.heap.size ≤ w'.heap.size) (hc : ∀ b o, b < w.heap.size → w'.cell? ⟨b, o, none⟩ = w.cell? ⟨b, o, none⟩) : Rd w' a xs := fun hx => by
  obtain ⟨b, o, e, hb, hr⟩ := h hx
  exact ⟨b, o, e, by omega, fun j v hv => (hc b _ hb).trans (hr j v hv)⟩
theorem Rd.below {w w' : World} {a : Option Addr} {xs : List Value} (h : Rd w a xs) (hb : Below w.heap.size w w') : Rd w' a xs :=
  h.keep hb.size fun b o hlt => hb.cell (p := ⟨b, o, none⟩) hlt
theorem Rd.drewN {w : World} {a : Option Addr} {xs : List Value} (h : Rd w a xs) (n : Nat) : Rd (w.drewN n) a xs := h
theorem Rd.drew {w : World} {a : Option Addr} {xs : List Value} (h : Rd w a xs) : Rd w.drew a xs := h
theorem Rd.alloc {w : World} {a : Option Addr} {xs : List Value} (h : Rd w a xs) (o : Obj) : Rd (w.alloc o) a xs :=
  h.below ((Below.refl _ _).alloc (Nat.le_refl _) _)
/-- The address of a slice that has an element. -/
theorem Rd.at {w : World} {a : Option Addr} {xs : List Value} (h : Rd w a xs) (k : Nat) (hk : k < xs.length) : ∃ b o, a = some ⟨b, o, none⟩ ∧ b < w.heap.size ∧ (∀ j v, xs[j]? = some v → w.cell? ⟨b, o + j, none⟩ = some v) ∧ w.cell? ⟨b, o + k, none⟩ = some xs[k] := by
  obtain ⟨b, o, e, hb, hr⟩ := h (by intro e; subst e; simp at hk)
  exact ⟨b, o, e, hb, hr, hr k _ (List.getElem?_eq_getElem hk)⟩

/-- Integers as values. -/
def vals (k : IntKind) (zs : List Int) : List Value := zs.map (.int k)
@[simp] theorem vals_length (k : IntKind) (zs : List Int) : (vals k zs).length = zs.length := by simp [vals]
theorem vals_get (k : IntKind) (zs : List Int) (i : Nat) (h : i < zs.length) : (vals k zs)[i]'(by simpa using h) = .int k zs[i] := by simp [vals]

theorem any_take_succ (p : Int → Bool) (zs : List Int) (k : Nat) (h : k < zs.length) : (zs.take (k + 1)).any p = ((zs.take k).any p || p zs[k]) := by
  have e := List.take_succ_eq_append_getElem h
  rw [e, List.any_append]
  simp

end Go.Proofs.YtdkabldhkgidjaaDoor
