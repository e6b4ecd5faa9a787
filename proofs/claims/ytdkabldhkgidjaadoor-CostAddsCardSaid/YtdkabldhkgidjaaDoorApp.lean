/-
  append onto a row of the call's own, of a slice that reads as a list of one-cell values. Of no program.
-/
import Derived.Test.YtdkabldhkgidjaaDoorRow
import Derived.Laws.OwnMore
import Derived.Laws.AppendOwnNone
import Derived.OwnWalk
namespace Go.Proofs.YtdkabldhkgidjaaDoor
set_option linter.unusedVariables false
set_option linter.unusedSimpArgs false
open Go.RowKit

theorem add_none (b o j : Nat) : (⟨b, o, none⟩ : Addr).add j = ⟨b, o + j, none⟩ := by unfold Addr.add; split <;> simp_all
/-- A slice of n values of element type e that the call owns from block B on, and what it holds. -/
def Own (w : World) (B : Nat) (e : TypeId) (A : Option Addr) (n c : Nat) (xs : List Value) : Prop := w.ownsRow B e 1 (.slice A n c) n xs
section
variable {w w' : World} {B n c : Nat} {e : TypeId} {A : Option Addr} {xs : List Value}
theorem Own.len (h : Own w B e A n c xs) : xs.length = n := by have := h.1; omega
theorem Own.form (h : Own w B e A n c xs) : (A = none ∧ n = 0 ∧ c = 0) ∨ ∃ g, A = some ⟨g, 0, none⟩ ∧ B ≤ g ∧ g < w.heap.size ∧ ∃ cur, w.heap[g]? = some (.cells cur e (0, 0)) ∧ n ≤ c ∧ cur.size = c ∧ cur.toList.take n = xs := by
  rcases h.2 with ⟨h, h0⟩ | ⟨g, cap, cur, hv, hb, hg, hn, hm, hs, ht⟩
  · injection h with h1 h2 h3
    exact .inl ⟨h1, h2, h3⟩
  · injection hv with h1 h2 h3
    subst h1 h3
    refine .inr ⟨g, rfl, hb, (Array.getElem?_eq_some_iff.1 hg).1, cur, hg, hn, by omega, by simpa using ht⟩
theorem Own.rd (h : Own w B e A n c xs) : Rd w A xs := fun hx => by
  rcases h.form with ⟨_, h0, _⟩ | ⟨g, rfl, hb, hl, cur, hg, hn, hs, ht⟩
  · have := h.len
    subst h0
    exact absurd (List.eq_nil_of_length_eq_zero this) hx
  · refine ⟨g, 0, rfl, hl, fun j v hv => ?_⟩
    rw [Nat.zero_add, cell_of_row w g j cur e (0, 0) hg]
    rw [← ht, List.getElem?_take] at hv
    split at hv
    · simpa using hv
    · cases hv
theorem Own.empty (w : World) (e : TypeId) (B : Nat) (hB : B ≤ w.heap.size) : Own (w.alloc (.cells #[] e)) B e (some ⟨w.heap.size, 0, none⟩) 0 0 [] :=
  ⟨rfl, .inr ⟨w.heap.size, 0, #[], rfl, hB, heap_alloc_new w _, Nat.le_refl _, by unfold maxLen; omega, rfl, rfl⟩⟩
theorem Own.nil (w : World) (e : TypeId) (B : Nat) : Own w B e none 0 0 [] := ⟨rfl, .inl ⟨rfl, rfl⟩⟩
theorem Own.alloc (h : Own w B e A n c xs) (o : Obj) : Own (w.alloc o) B e A n c xs := World.ownsRow.alloc h o
theorem Own.drew (h : Own w B e A n c xs) : Own w.drew B e A n c xs := h
theorem Own.drewN (h : Own w B e A n c xs) (k : Nat) : Own (w.drewN k) B e A n c xs := h
theorem Own.keep (h : Own w B e A n c xs) (hb : Below w.heap.size w w') : Own w' B e A n c xs := by
  refine ⟨h.1, ?_⟩
  rcases h.2 with hn | ⟨g, cap, cur, hv, hb', hg, rest⟩
  · exact .inl hn
  · exact .inr ⟨g, cap, cur, hv, hb', (hb.block g (Array.getElem?_eq_some_iff.1 hg).1).trans hg, rest⟩
end

section
variable {P : Program} (w : World)
theorem run_app (base : Nat) (t ty e : TypeId) (i : TypeInfo) (z : Value) (bytes : Nat) (ht : P.underlying t = some (.slice e)) (hi : P.info? e = some i) (hz : i.zero = some z)
    (hsize : i.size = 1) (hby : i.bytes = bytes) (hzs : z.cells.size = 1) (A : Option Addr) (n c : Nat) (xs : List Value) (hown : Own w base e A n c xs)
    (B : Option Addr) (m d : Nat) (news : List Value) (hl : news.length = m) (hr : Rd w B news) (h1 : ∀ u ∈ news, u.oneCell' = true)
    (h63 : n + m ≤ maxLen) (hbytes : (n + m) * bytes ≤ 140737488355328) (hbase : base ≤ w.heap.size) :
    ∃ A' c' w', (Builtin.append_ #[t, t] ty #[.slice A n c, .slice B m d]).run P w = .ok (.slice A' (n + m) c') w' ∧ Own w' base e A' (n + m) c' (xs ++ news) ∧ w.grownBy w' (Value.slice A n c).ownBlock := by
  have fin : ∀ (v' : Value) (w' : World), w'.ownsRow base e 1 v' (n + m) (xs ++ news) → ∃ A' c', v' = Value.slice A' (n + m) c' := by
    intro v' w' h
    rcases h.2 with ⟨rfl, h0⟩ | ⟨g, cap, cur, rfl, _⟩
    · exact ⟨none, 0, by rw [h0]⟩
    · exact ⟨_, _, rfl⟩
  rcases Nat.eq_zero_or_pos m with h0 | h0
  · subst h0
    have hn : news = [] := List.eq_nil_of_length_eq_zero hl
    subst hn
    refine ⟨A, c, w, ?_, by simpa using hown, World.grownBy.refl w _⟩
    rcases hown.form with ⟨rfl, rfl, rfl⟩ | ⟨g, rfl, _, _, cur, _, hnc, _⟩
    · rcases B with _ | b <;> simp [Builtin.append_, run_underlying ht, sizeOf, typeInfo, hi, Builtin.lenOf, Builtin.firstCells, loadCells, loadCellsFrom]
    · rcases B with _ | b <;> simp [Builtin.append_, run_underlying ht, sizeOf, typeInfo, hi, Builtin.lenOf, Builtin.firstCells, hnc, storeCells, loadCells, loadCellsFrom]
  · obtain ⟨b, o, rfl, hb, hcell⟩ := hr (by intro h; subst h; simp at hl; omega)
    obtain ⟨v', w', hrun, h2, h3, _⟩ := run_append_own (P := P) w base t ty e i z 1 bytes ht hi hz hsize hby hzs (by omega) (.slice A n c) n xs hown ⟨b, o, none⟩ m d news (by omega) (fun j u hu => by rw [add_none]; exact hcell j u hu) h1 h63 hbytes hbase
    obtain ⟨A', c', rfl⟩ := fin v' w' h2
    exact ⟨A', c', w', hrun, h2, h3⟩

theorem wpList_app {ops : Array Oper} {rest : List Oper} {o : Oper} {a : Act} {Q : Exit → Act → World → Prop} (hgd : o.guard = none) (s x : Operand) (t : TypeId)
    (ho : o.op = .call { callee := .builtin .append, args := #[s, x], argTypes := #[t, t] })
    (base : Nat) (e : TypeId) (i : TypeInfo) (z : Value) (bytes : Nat) (ht : P.underlying t = some (.slice e)) (hi : P.info? e = some i) (hz : i.zero = some z)
    (hsize : i.size = 1) (hby : i.bytes = bytes) (hzs : z.cells.size = 1) (A : Option Addr) (n c : Nat) (xs : List Value) (hs : a.eval s = .slice A n c) (hown : Own w base e A n c xs)
    (B : Option Addr) (m d : Nat) (news : List Value) (hx : a.eval x = .slice B m d) (hl : news.length = m) (hr : Rd w B news) (h1 : ∀ u ∈ news, u.oneCell' = true)
    (h63 : n + m ≤ maxLen) (hbytes : (n + m) * bytes ≤ 140737488355328) (hbase : base ≤ w.heap.size)
    (h : ∀ A' c' w', Own w' base e A' (n + m) c' (xs ++ news) → w.grownBy w' (Value.slice A n c).ownBlock → Below base w w' → wpList P ops Q rest (a.put o.dst (.slice A' (n + m) c')) w') : wpList P ops Q (o :: rest) a w := by
  refine wpList_plain hgd fun K hK => ?_
  obtain ⟨A', c', w', hrun, h2, h3⟩ := run_app (P := P) w base t o.type e i z bytes ht hi hz hsize hby hzs A n c xs hown B m d news hl hr h1 h63 hbytes hbase
  unfold Oper.wp execOp
  simp only [ho, resolve, invoke, builtin, Sem.run_bind, Sem.run_pure, Result.andThen_ok, List.map_toArray, List.map_cons, List.map_nil, hs, hx, hrun]
  refine hK _ _ (h A' c' w' h2 h3 ((Below.refl _ _).grown h3 hbase fun k hk => ?_))
  rcases hown.form with ⟨rfl, _, _⟩ | ⟨g, rfl, hg, _⟩
  · simp [Value.ownBlock] at hk
  · simp [Value.ownBlock] at hk
    omega
end
theorem one_vals (k : IntKind) (zs : List Int) : ∀ u ∈ vals k zs, u.oneCell' = true := by
  intro u hu
  simp only [vals, List.mem_map] at hu
  obtain ⟨x, _, rfl⟩ := hu
  rfl
theorem vals_append (k : IntKind) (a b : List Int) : vals k a ++ vals k b = vals k (a ++ b) := by simp [vals]

end Go.Proofs.YtdkabldhkgidjaaDoor
