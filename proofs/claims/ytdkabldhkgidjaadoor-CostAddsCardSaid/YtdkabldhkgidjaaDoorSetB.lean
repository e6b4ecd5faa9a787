/-
  A set kept as a map from strings to bools that the call has made. Of no program.
-/
import Derived.Maps.Own
import Derived.Maps.OwnOps
import Derived.Maps.Views
import Derived.WalkKit
namespace Go.Proofs.YtdkabldhkgidjaaDoor
set_option linter.unusedVariables false
set_option linter.unusedSimpArgs false
open Go.RowKit Go.Maps
open Go.WideMaps (keyOf_string_mk)

section
variable {P : Program} {k e t : TypeId}
/-- Block b is a map that answers true just for the strings of S. -/
def Seen (P : Program) (k e : TypeId) (w : World) (b n : Nat) (S : List (List UInt8)) : Prop :=
  ∃ D : DataW Unit, w.ownsMap P k (plainElem P e) b n D ∧ IsMap D ∧ ∀ s : ByteArray, s.size ≤ maxLen → D.atKey (.string s.data.toList) (.lit (.bool false)) = .lit (.bool (decide (s.data.toList ∈ S)))
theorem bytes_inj {s s' : ByteArray} (h : s.data.toList = s'.data.toList) : s = s' := by
  cases s; cases s'; congr 1; exact Array.ext' h
theorem plainElem_bool_inv (he : P.underlying e = some .bool) {v : Value} {z : DataW Unit × List MemPlace} (h : plainElem P e v = some z) : ∃ x, v = .bool x ∧ z = (.lit (.bool x), []) := by
  unfold plainElem at h
  rw [he] at h
  cases v <;> simp at h
  exact ⟨_, rfl, h.symm⟩
theorem Seen.made (w : World) : Seen P k e (w.alloc (.map #[] 0)) w.heap.size 0 [] :=
  ⟨.map [], World.ownsMap_made _ _ _ _, ⟨_, rfl⟩, fun s _ => by simp [DataW.atKey]⟩
theorem Seen.lt {w : World} {b n : Nat} {S : List (List UInt8)} (h : Seen P k e w b n S) : b < w.heap.size := by obtain ⟨D, h, _⟩ := h; exact h.lt
theorem Seen.kept {w w' : World} {b n : Nat} {S : List (List UInt8)} {row : Option Nat} (h : Seen P k e w b n S) (hg : w.grownBy w' row) (hne : some b ≠ row) : Seen P k e w' b n S := by
  obtain ⟨D, h, r⟩ := h
  exact ⟨D, h.kept hg hne, r⟩
theorem Seen.alloc {w : World} {b n : Nat} {S : List (List UInt8)} (h : Seen P k e w b n S) (o : Obj) : Seen P k e (w.alloc o) b n S := by
  obtain ⟨D, h, r⟩ := h
  exact ⟨D, h.alloc o, r⟩
theorem Seen.look {w : World} {b n : Nat} {S : List (List UInt8)} (h : Seen P k e w b n S) (hk : P.underlying k = some .string) (ht : P.underlying t = some (.map k e)) (he : P.underlying e = some .bool) (hz : (zeroValue e).run P w = .ok (.bool false) w)
    {s : ByteArray} (hs : s.size ≤ maxLen) : (Instr.lookup t (.map (some b)) (.string s) false).run P w = .ok (.bool (decide (s.data.toList ∈ S))) w := by
  obtain ⟨D, h, _, hD⟩ := h
  obtain ⟨v, ps, hrun, hv⟩ := h.lookup (string_keyed hk) ht hz (plainElem_bool he false) (keyOf_string_mk hk hs)
  rw [hD s hs] at hv
  obtain ⟨x, rfl, hx⟩ := plainElem_bool_inv he hv
  injection hx with hx _
  injection hx with hx
  injection hx with hx
  rw [hx]
  exact hrun
theorem Seen.put {w : World} {b n : Nat} {S : List (List UInt8)} (h : Seen P k e w b n S) (hk : P.underlying k = some .string) (ht : P.underlying t = some (.map k e)) (he : P.underlying e = some .bool) (hn : n < maxLen) {s : ByteArray} (hs : s.size ≤ maxLen) :
    ∃ w', (Instr.mapUpdate t (.map (some b)) (.string s) (.bool true)).run P w = .ok () w' ∧ Seen P k e w' b (n + 1) (S ++ [s.data.toList]) ∧ w.grownBy w' (some b) := by
  obtain ⟨D, h, hm, hD⟩ := h
  obtain ⟨w', hrun, h1, h2⟩ := h.update (string_keyed hk) ht hn (keyOf_string_mk hk hs) (plainElem_bool he true)
  refine ⟨w', hrun, ⟨_, h1, hm.put _ _, fun s' hs' => ?_⟩, h2⟩
  by_cases e : s'.data.toList = s.data.toList
  · rw [e]
    rw [atKey_put_same hm (by first | rfl | trivial | decide | exact ⟨_, rfl⟩)]
    simp
  · rw [atKey_put_other (fun h => e (by injection h)), hD s' hs']
    simp [e]

theorem wpList_put_seen {w : World} {ops : Array Oper} {rest : List Oper} {o : Oper} {a : Act} {Q : Exit → Act → World → Prop}
    (hg : o.guard = none) (m x v : Operand) (t : TypeId) (hop : o.op = Op.mapUpdate t m x v)
    {b n : Nat} {S : List (List UInt8)} (h : Seen P k e w b n S) (hk : P.underlying k = some .string) (ht : P.underlying t = some (.map k e)) (he : P.underlying e = some .bool) (hn : n < maxLen) {s : ByteArray} (hs : s.size ≤ maxLen)
    (hm : a.eval m = .map (some b)) (hx : a.eval x = .string s) (hv : a.eval v = .bool true)
    (hK : ∀ w', Seen P k e w' b (n + 1) (S ++ [s.data.toList]) → w.grownBy w' (some b) → wpList P ops Q rest (a.put o.dst undef) w') :
    wpList P ops Q (o :: rest) a w := by
  refine wpList_plain hg fun K' hK' => ?_
  obtain ⟨w', hrun, r1, r2⟩ := h.put hk ht he hn hs
  unfold Oper.wp
  simp [execOp, hop, hm, hx, hv, hrun, Result.andThen]
  exact hK' _ _ (hK w' r1 r2)
end

end Go.Proofs.YtdkabldhkgidjaaDoor
