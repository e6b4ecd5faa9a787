/-
  A tally kept as a map from strings to int64 that the call has made. Of no program.
-/
import Derived.Test.YtbcmaaoddnaoiaaSetB
import Derived.Test.YtbcmaaoddnaoiaaMem
namespace Go.Proofs.Ytbcmaaoddnaoiaa
set_option linter.unusedVariables false
set_option linter.unusedSimpArgs false
open Go.RowKit Go.Maps
open Go.WideMaps (keyOf_string_mk)

section
variable {P : Program} {k e t : TypeId}
/-- Block b is a map that answers T. -/
def Tally (P : Program) (k e : TypeId) (w : World) (b n : Nat) (T : ByteArray → Int) : Prop :=
  ∃ D : DataW Unit, w.ownsMap P k (plainElem P e) b n D ∧ IsMap D ∧ ∀ s : ByteArray, s.size ≤ maxLen → D.atKey (.string s.data.toList) (.lit (.int .i64 0)) = .lit (.int .i64 (T s))
theorem Tally.made (w : World) : Tally P k e (w.alloc (.map #[] 0)) w.heap.size 0 (fun _ => 0) :=
  ⟨.map [], World.ownsMap_made _ _ _ _, ⟨_, rfl⟩, fun s _ => by simp [DataW.atKey]⟩
theorem Tally.lt {w : World} {b n : Nat} {T : ByteArray → Int} (h : Tally P k e w b n T) : b < w.heap.size := by obtain ⟨D, h, _⟩ := h; exact h.lt
theorem Tally.kept {w w' : World} {b n : Nat} {T : ByteArray → Int} {row : Option Nat} (h : Tally P k e w b n T) (hg : w.grownBy w' row) (hne : some b ≠ row) : Tally P k e w' b n T := by
  obtain ⟨D, h, r⟩ := h
  exact ⟨D, h.kept hg hne, r⟩
theorem Tally.alloc {w : World} {b n : Nat} {T : ByteArray → Int} (h : Tally P k e w b n T) (o : Obj) : Tally P k e (w.alloc o) b n T := by
  obtain ⟨D, h, r⟩ := h
  exact ⟨D, h.alloc o, r⟩
theorem Tally.look {w : World} {b n : Nat} {T : ByteArray → Int} (h : Tally P k e w b n T) (hk : P.underlying k = some .string) (ht : P.underlying t = some (.map k e)) (he : P.underlying e = some (.int .i64)) (hz : (zeroValue e).run P w = .ok (.int .i64 0) w)
    {s : ByteArray} (hs : s.size ≤ maxLen) : (Instr.lookup t (.map (some b)) (.string s) false).run P w = .ok (.int .i64 (T s)) w := by
  obtain ⟨D, h, _, hD⟩ := h
  obtain ⟨v, ps, hrun, hv⟩ := h.lookup (string_keyed hk) ht hz (plainElem_int he (a := 0) (by decide)) (keyOf_string_mk hk hs)
  rw [hD s hs] at hv
  obtain ⟨x, rfl, hx, _⟩ := plainElem_int_inv he hv
  injection hx with hx _
  injection hx with hx
  injection hx with _ hx
  rw [hx]
  exact hrun
theorem Tally.put {w : World} {b n : Nat} {T : ByteArray → Int} (h : Tally P k e w b n T) (hk : P.underlying k = some .string) (ht : P.underlying t = some (.map k e)) (he : P.underlying e = some (.int .i64)) (hn : n < maxLen) {s : ByteArray} (hs : s.size ≤ maxLen) (x : Int) (hx : (Lit.int .i64 x).wf = true) :
    ∃ w', (Instr.mapUpdate t (.map (some b)) (.string s) (.int .i64 x)).run P w = .ok () w' ∧ Tally P k e w' b (n + 1) (fun u => if u = s then x else T u) ∧ w.grownBy w' (some b) := by
  obtain ⟨D, h, hm, hD⟩ := h
  obtain ⟨w', hrun, h1, h2⟩ := h.update (string_keyed hk) ht hn (keyOf_string_mk hk hs) (plainElem_int he hx)
  refine ⟨w', hrun, ⟨_, h1, hm.put _ _, fun s' hs' => ?_⟩, h2⟩
  by_cases e : s' = s
  · subst e
    rw [atKey_put_same hm (by first | rfl | trivial | decide | exact ⟨_, rfl⟩)]
    simp
  · rw [atKey_put_other (fun h => e (bytes_inj (by injection h))), hD s' hs']
    simp [e]
theorem Tally.drewN {w : World} {b n : Nat} {T : ByteArray → Int} (h : Tally P k e w b n T) (q : Nat) : Tally P k e (w.drewN q) b n T := h.kept (row := none) ⟨rfl, rfl, rfl, Nat.le_refl _, fun _ _ _ => rfl⟩ (by simp)
theorem Tally.drew {w : World} {b n : Nat} {T : ByteArray → Int} (h : Tally P k e w b n T) : Tally P k e w.drew b n T := h.kept (row := none) ⟨rfl, rfl, rfl, Nat.le_refl _, fun _ _ _ => rfl⟩ (by simp)
theorem Tally.congr {w : World} {b n : Nat} {T T' : ByteArray → Int} (h : Tally P k e w b n T) (hT : ∀ s, T s = T' s) : Tally P k e w b n T' := (funext hT : T = T') ▸ h
theorem wpList_put_tally {w : World} {ops : Array Oper} {rest : List Oper} {o : Oper} {a : Act} {Q : Exit → Act → World → Prop}
    (hg : o.guard = none) (m x v : Operand) (t : TypeId) (hop : o.op = Op.mapUpdate t m x v)
    {b n : Nat} {T : ByteArray → Int} (h : Tally P k e w b n T) (hk : P.underlying k = some .string) (ht : P.underlying t = some (.map k e)) (he : P.underlying e = some (.int .i64)) (hn : n < maxLen) {s : ByteArray} (hs : s.size ≤ maxLen) (z : Int) (hz : (Lit.int .i64 z).wf = true)
    (hm : a.eval m = .map (some b)) (hx : a.eval x = .string s) (hv : a.eval v = .int .i64 z)
    (hK : ∀ w', Tally P k e w' b (n + 1) (fun u => if u = s then z else T u) → w.grownBy w' (some b) → wpList P ops Q rest (a.put o.dst undef) w') :
    wpList P ops Q (o :: rest) a w := by
  refine wpList_plain hg fun K' hK' => ?_
  obtain ⟨w', hrun, r1, r2⟩ := h.put hk ht he hn hs z hz
  unfold Oper.wp
  simp [execOp, hop, hm, hx, hv, hrun, Result.andThen]
  exact hK' _ _ (hK w' r1 r2)
end

end Go.Proofs.Ytbcmaaoddnaoiaa
