/-
  append onto a row of the call's own, whose elements take several cells. Of no program.
-/
import Derived.Test.YtdkabldhkgidjaaDoorApp
namespace Go.Proofs.YtdkabldhkgidjaaDoor
set_option linter.unusedVariables false
set_option linter.unusedSimpArgs false
open Go.RowKit

/-- A slice of n values of element type e, s cells each, that the call owns from block B on, and what it holds. -/
def OwnS (s : Nat) (w : World) (B : Nat) (e : TypeId) (A : Option Addr) (n c : Nat) (xs : List Value) : Prop := w.ownsRow B e s (.slice A n c) n xs
section
variable {s : Nat} {w w' : World} {B n c : Nat} {e : TypeId} {A : Option Addr} {xs : List Value}
theorem OwnS.len (h : OwnS s w B e A n c xs) : xs.length = n * s := h.1
theorem OwnS.form (h : OwnS s w B e A n c xs) : (A = none ∧ n = 0 ∧ c = 0) ∨ ∃ g, A = some ⟨g, 0, none⟩ ∧ B ≤ g ∧ g < w.heap.size ∧ ∃ cur, w.heap[g]? = some (.cells cur e (0, 0)) ∧ n ≤ c ∧ cur.size = c * s ∧ cur.toList.take (n * s) = xs := by
  rcases h.2 with ⟨h, h0⟩ | ⟨g, cap, cur, hv, hb, hg, hn, hm, hs, ht⟩
  · injection h with h1 h2 h3
    exact .inl ⟨h1, h2, h3⟩
  · injection hv with h1 h2 h3
    subst h1 h3
    exact .inr ⟨g, rfl, hb, (Array.getElem?_eq_some_iff.1 hg).1, cur, hg, hn, hs, ht⟩
theorem OwnS.rd (h : OwnS s w B e A n c xs) : Rd w A xs := fun hx => by
  rcases h.form with ⟨_, h0, _⟩ | ⟨g, rfl, hb, hl, cur, hg, hn, hs, ht⟩
  · have := h.len
    subst h0
    rw [Nat.zero_mul] at this
    exact absurd (List.eq_nil_of_length_eq_zero this) hx
  · refine ⟨g, 0, rfl, hl, fun j v hv => ?_⟩
    rw [Nat.zero_add, cell_of_row w g j cur e (0, 0) hg]
    rw [← ht, List.getElem?_take] at hv
    split at hv
    · simpa using hv
    · cases hv
theorem OwnS.mono (h : OwnS s w B e A n c xs) {B' : Nat} (hB : B' ≤ B) : OwnS s w B' e A n c xs := by
  refine ⟨h.1, ?_⟩
  rcases h.2 with hn | ⟨g, cap, cur, hv, hb', rest⟩
  · exact .inl hn
  · exact .inr ⟨g, cap, cur, hv, by omega, rest⟩
theorem OwnS.nil (w : World) (e : TypeId) (B : Nat) : OwnS s w B e none 0 0 [] := ⟨by simp, .inl ⟨rfl, rfl⟩⟩
theorem OwnS.alloc (h : OwnS s w B e A n c xs) (o : Obj) : OwnS s (w.alloc o) B e A n c xs := World.ownsRow.alloc h o
theorem OwnS.drew (h : OwnS s w B e A n c xs) : OwnS s w.drew B e A n c xs := h
theorem OwnS.drewN (h : OwnS s w B e A n c xs) (k : Nat) : OwnS s (w.drewN k) B e A n c xs := h
theorem OwnS.keep (h : OwnS s w B e A n c xs) (hb : Below w.heap.size w w') : OwnS s w' B e A n c xs := by
  refine ⟨h.1, ?_⟩
  rcases h.2 with hn | ⟨g, cap, cur, hv, hb', hg, rest⟩
  · exact .inl hn
  · exact .inr ⟨g, cap, cur, hv, hb', (hb.block g (Array.getElem?_eq_some_iff.1 hg).1).trans hg, rest⟩
/-- A store into a block ahead of the row's own. -/
theorem OwnS.far (h : OwnS s w B e A n c xs) {p : Addr} (hp : p.block < B) (u : Value) : OwnS s (w.setCell p u) B e A n c xs := by
  refine World.ownsRow.kept h (row := some p.block) ⟨rfl, rfl, rfl, by simp [World.setCell], fun k _ hk => Below.heap_setCell w p u k (by simpa using hk)⟩ ?_
  rcases h.form with ⟨rfl, _⟩ | ⟨g, rfl, hg, _⟩
  · exact .inl rfl
  · refine .inr ?_
    simp [Value.ownBlock]
    omega
end

section
variable {P : Program} (w : World)
theorem run_appS (s : Nat) (hs0 : 0 < s) (base : Nat) (t ty e : TypeId) (i : TypeInfo) (z : Value) (bytes : Nat) (ht : P.underlying t = some (.slice e)) (hi : P.info? e = some i) (hz : i.zero = some z)
    (hsize : i.size = s) (hby : i.bytes = bytes) (hzs : z.cells.size = s) (A : Option Addr) (n c : Nat) (xs : List Value) (hown : OwnS s w base e A n c xs)
    (B : Option Addr) (m d : Nat) (news : List Value) (hl : news.length = m * s) (hr : Rd w B news) (h1 : ∀ u ∈ news, u.oneCell' = true)
    (h63 : n + m ≤ maxLen) (hbytes : (n + m) * bytes ≤ 140737488355328) (hbase : base ≤ w.heap.size) :
    ∃ A' c' w', (Builtin.append_ #[t, t] ty #[.slice A n c, .slice B m d]).run P w = .ok (.slice A' (n + m) c') w' ∧ OwnS s w' base e A' (n + m) c' (xs ++ news) ∧ w.grownBy w' (Value.slice A n c).ownBlock := by
  have fin : ∀ (v' : Value) (w' : World), w'.ownsRow base e s v' (n + m) (xs ++ news) → ∃ A' c', v' = Value.slice A' (n + m) c' := by
    intro v' w' h
    rcases h.2 with ⟨rfl, h0⟩ | ⟨g, cap, cur, rfl, _⟩
    · exact ⟨none, 0, by rw [h0]⟩
    · exact ⟨_, _, rfl⟩
  rcases Nat.eq_zero_or_pos m with h0 | h0
  · subst h0
    rw [Nat.zero_mul] at hl
    have hn : news = [] := List.eq_nil_of_length_eq_zero hl
    subst hn
    refine ⟨A, c, w, ?_, by simpa using hown, World.grownBy.refl w _⟩
    rcases hown.form with ⟨rfl, rfl, rfl⟩ | ⟨g, rfl, _, _, cur, _, hnc, _⟩
    · rcases B with _ | b <;> simp [Builtin.append_, run_underlying ht, sizeOf, typeInfo, hi, Builtin.lenOf, Builtin.firstCells, loadCells, loadCellsFrom]
    · rcases B with _ | b <;> simp [Builtin.append_, run_underlying ht, sizeOf, typeInfo, hi, Builtin.lenOf, Builtin.firstCells, hnc, storeCells, loadCells, loadCellsFrom]
  · obtain ⟨b, o, rfl, hb, hcell⟩ := hr (by
      intro h; subst h; simp only [List.length_nil] at hl
      have := Nat.mul_pos h0 hs0; omega)
    obtain ⟨v', w', hrun, h2, h3, _⟩ := run_append_own (P := P) w base t ty e i z s bytes ht hi hz hsize hby hzs hs0 (.slice A n c) n xs hown ⟨b, o, none⟩ m d news hl (fun j u hu => by rw [add_none]; exact hcell j u hu) h1 h63 hbytes hbase
    obtain ⟨A', c', rfl⟩ := fin v' w' h2
    exact ⟨A', c', w', hrun, h2, h3⟩

theorem wpList_appS {ops : Array Oper} {rest : List Oper} {o : Oper} {a : Act} {Q : Exit → Act → World → Prop} (hgd : o.guard = none) (sx x : Operand) (t : TypeId)
    (ho : o.op = .call { callee := .builtin .append, args := #[sx, x], argTypes := #[t, t] })
    (s : Nat) (hs0 : 0 < s) (base : Nat) (e : TypeId) (i : TypeInfo) (z : Value) (bytes : Nat) (ht : P.underlying t = some (.slice e)) (hi : P.info? e = some i) (hz : i.zero = some z)
    (hsize : i.size = s) (hby : i.bytes = bytes) (hzs : z.cells.size = s) (A : Option Addr) (n c : Nat) (xs : List Value) (hs : a.eval sx = .slice A n c) (hown : OwnS s w base e A n c xs)
    (B : Option Addr) (m d : Nat) (news : List Value) (hx : a.eval x = .slice B m d) (hl : news.length = m * s) (hr : Rd w B news) (h1 : ∀ u ∈ news, u.oneCell' = true)
    (h63 : n + m ≤ maxLen) (hbytes : (n + m) * bytes ≤ 140737488355328) (hbase : base ≤ w.heap.size)
    (h : ∀ A' c' w', OwnS s w' base e A' (n + m) c' (xs ++ news) → w.grownBy w' (Value.slice A n c).ownBlock → Below base w w' → wpList P ops Q rest (a.put o.dst (.slice A' (n + m) c')) w') : wpList P ops Q (o :: rest) a w := by
  refine wpList_plain hgd fun K hK => ?_
  obtain ⟨A', c', w', hrun, h2, h3⟩ := run_appS (P := P) w s hs0 base t o.type e i z bytes ht hi hz hsize hby hzs A n c xs hown B m d news hl hr h1 h63 hbytes hbase
  unfold Oper.wp execOp
  simp only [ho, resolve, invoke, builtin, Sem.run_bind, Sem.run_pure, Result.andThen_ok, List.map_toArray, List.map_cons, List.map_nil, hs, hx, hrun]
  refine hK _ _ (h A' c' w' h2 h3 ((Below.refl _ _).grown h3 hbase fun k hk => ?_))
  rcases hown.form with ⟨rfl, _, _⟩ | ⟨g, rfl, hg, _⟩
  · simp [Value.ownBlock] at hk
  · simp [Value.ownBlock] at hk
    omega

theorem step_appS {ops : Array Oper} {o : Oper} {a : Act} {K : Act → World → Prop} {Q : Exit → Act → World → Prop} {E : Prop} (hgd : o.guard = none) (sx x : Operand) (t : TypeId)
    (ho : o.op = .call { callee := .builtin .append, args := #[sx, x], argTypes := #[t, t] })
    (s : Nat) (hs0 : 0 < s) (base : Nat) (e : TypeId) (i : TypeInfo) (z : Value) (bytes : Nat) (ht : P.underlying t = some (.slice e)) (hi : P.info? e = some i) (hz : i.zero = some z)
    (hsize : i.size = s) (hby : i.bytes = bytes) (hzs : z.cells.size = s) (A : Option Addr) (n c : Nat) (xs : List Value) (hs : a.eval sx = .slice A n c) (hown : OwnS s w base e A n c xs)
    (B : Option Addr) (m d : Nat) (news : List Value) (hx : a.eval x = .slice B m d) (hl : news.length = m * s) (hr : Rd w B news) (h1 : ∀ u ∈ news, u.oneCell' = true)
    (h63 : n + m ≤ maxLen) (hbytes : (n + m) * bytes ≤ 140737488355328) (hbase : base ≤ w.heap.size)
    (h : ∀ A' c' w', OwnS s w' base e A' (n + m) c' (xs ++ news) → w.grownBy w' (Value.slice A n c).ownBlock → Below base w w' → K (a.put o.dst (.slice A' (n + m) c')) w') :
    if Region.wanted o (yielded ops a.tmps) = true then Oper.wp P o a w K Q else E := by
  have hw : Region.wanted o (yielded ops a.tmps) = true := by simp [Region.wanted, hgd]
  rw [if_pos hw]
  obtain ⟨A', c', w', hrun, h2, h3⟩ := run_appS (P := P) w s hs0 base t o.type e i z bytes ht hi hz hsize hby hzs A n c xs hown B m d news hl hr h1 h63 hbytes hbase
  unfold Oper.wp execOp
  simp only [ho, resolve, invoke, builtin, Sem.run_bind, Sem.run_pure, Result.andThen_ok, List.map_toArray, List.map_cons, List.map_nil, hs, hx, hrun]
  refine h A' c' w' h2 h3 ((Below.refl _ _).grown h3 hbase fun k hk => ?_)
  rcases hown.form with ⟨rfl, _, _⟩ | ⟨g, rfl, hg, _⟩
  · simp [Value.ownBlock] at hk
  · simp [Value.ownBlock] at hk
    omega
end

end Go.Proofs.YtdkabldhkgidjaaDoor
