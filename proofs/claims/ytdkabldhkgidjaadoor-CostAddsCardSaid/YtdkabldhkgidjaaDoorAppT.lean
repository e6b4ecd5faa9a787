/-
  append of elements that take several cells, and where the new row lies; what is kept but for two blocks. Of no program.
-/
import Derived.Test.YtdkabldhkgidjaaDoorAppS
import Derived.Maps.AppendAt
namespace Go.Proofs.YtdkabldhkgidjaaDoor
set_option linter.unusedVariables false
set_option linter.unusedSimpArgs false
open Go.RowKit

/-- All blocks are as they were but for g and the row. -/
structure Kept (g : Nat) (row : Option Nat) (w w' : World) : Prop where
  os : w'.os = w.os
  tape : w'.tape = w.tape
  output : w'.output = w.output
  size : w.heap.size ≤ w'.heap.size
  block : ∀ k, k < w.heap.size → k ≠ g → some k ≠ row → w'.heap[k]? = w.heap[k]?
theorem Kept.of_below {g : Nat} {row : Option Nat} {w w' : World} (h : Below w.heap.size w w') : Kept g row w w' := ⟨h.os, h.tape, h.output, h.size, fun k hk _ _ => h.block k hk⟩
theorem Kept.of_grown {g : Nat} {row : Option Nat} {w w' : World} (h : w.grownBy w' row) : Kept g row w w' := ⟨h.os, h.tape, h.output, h.size, fun k hk _ hr => h.block k hk hr⟩
theorem Kept.of_set {g : Nat} {row : Option Nat} {w : World} (o : Nat) (v : Value) : Kept g row w (w.setCell ⟨g, o, none⟩ v) :=
  ⟨rfl, rfl, rfl, by simp [World.setCell], fun k _ hk _ => Below.heap_setCell w ⟨g, o, none⟩ v k (by simpa using hk)⟩
/-- A second step, whose row is the first one's, or new. -/
theorem Kept.trans {g : Nat} {r r' : Option Nat} {w w1 w2 : World} (h1 : Kept g r w w1) (h2 : Kept g r' w1 w2) (hr : r' = r ∨ ∃ x, r' = some x ∧ w.heap.size ≤ x) : Kept g r w w2 :=
  ⟨h2.os.trans h1.os, h2.tape.trans h1.tape, h2.output.trans h1.output, Nat.le_trans h1.size h2.size, fun k hk hg hne => by
    refine (h2.block k (Nat.lt_of_lt_of_le hk h1.size) hg ?_).trans (h1.block k hk hg hne)
    rcases hr with rfl | ⟨x, rfl, hx⟩
    · exact hne
    · simp; omega⟩
theorem Kept.below {g : Nat} {row : Option Nat} {w w' : World} {B : Nat} (h : Kept g row w w') (hg : B ≤ g) (hr : ∀ k, row = some k → B ≤ k) (hB : B ≤ w.heap.size) : Below B w w' :=
  ⟨h.os, h.tape, h.output, h.size, fun k hk => h.block k (by omega) (by omega) fun e => by have := hr k e.symm; omega⟩
theorem Kept.refl (g : Nat) (row : Option Nat) (w : World) : Kept g row w w := ⟨rfl, rfl, rfl, Nat.le_refl _, fun _ _ _ _ => rfl⟩
theorem OwnS.own {s : Nat} {w : World} {B n c : Nat} {e : TypeId} {A : Option Addr} {xs : List Value} (h : OwnS s w B e A n c xs) : ∀ k, (Value.slice A n c).ownBlock = some k → B ≤ k ∧ k < w.heap.size := by
  intro k hk
  rcases h.form with ⟨rfl, _⟩ | ⟨g, rfl, hb, hl, _⟩
  · simp [Value.ownBlock] at hk
  · simp [Value.ownBlock] at hk
    omega
theorem own_any (A : Option Addr) (n c n' c' : Nat) : (Value.slice A n c).ownBlock = (Value.slice A n' c').ownBlock := by
  cases A <;> rfl

section
variable {P : Program}
theorem step_appT {ops : Array Oper} {o : Oper} {a : Act} {w : World} {K : Act → World → Prop} {Q : Exit → Act → World → Prop} {E : Prop} (hgd : o.guard = none) (sx x : Operand) (t : TypeId)
    (ho : o.op = .call { callee := .builtin .append, args := #[sx, x], argTypes := #[t, t] })
    (s : Nat) (hs0 : 0 < s) (base : Nat) (e : TypeId) (i : TypeInfo) (z : Value) (bytes : Nat) (ht : P.underlying t = some (.slice e)) (hi : P.info? e = some i) (hz : i.zero = some z)
    (hsize : i.size = s) (hby : i.bytes = bytes) (hzs : z.cells.size = s) (A : Option Addr) (n c : Nat) (xs : List Value) (hs : a.eval sx = .slice A n c) (hown : OwnS s w base e A n c xs)
    (b o' : Nat) (m d : Nat) (news : List Value) (hx : a.eval x = .slice (some ⟨b, o', none⟩) m d) (hl : news.length = m * s) (hr : ∀ j u, news[j]? = some u → w.cell? ⟨b, o' + j, none⟩ = some u) (h1 : ∀ u ∈ news, u.oneCell' = true)
    (h63 : n + m ≤ maxLen) (hbytes : (n + m) * bytes ≤ 140737488355328) (hbase : base ≤ w.heap.size)
    (h : ∀ A' c' w', OwnS s w' base e A' (n + m) c' (xs ++ news) → w.grownBy w' (Value.slice A n c).ownBlock → ((Value.slice A' (n + m) c').ownBlock = (Value.slice A n c).ownBlock ∨ (Value.slice A' (n + m) c').ownBlock = some w.heap.size) → K (a.put o.dst (.slice A' (n + m) c')) w') :
    if Region.wanted o (yielded ops a.tmps) = true then Oper.wp P o a w K Q else E := by
  have hw : Region.wanted o (yielded ops a.tmps) = true := by simp [Region.wanted, hgd]
  rw [if_pos hw]
  obtain ⟨v', w', hrun, h2, h3, _, h5⟩ := run_append_own_at (P := P) w base t o.type e i z s bytes ht hi hz hsize hby hzs hs0 (.slice A n c) n xs hown ⟨b, o', none⟩ m d news hl (fun j u hu => by rw [add_none]; exact hr j u hu) h1 h63 hbytes hbase
  have fin : ∃ A' c', v' = Value.slice A' (n + m) c' := by
    rcases h2.2 with ⟨rfl, h0⟩ | ⟨g, cap, cur, rfl, _⟩
    · exact ⟨none, 0, by rw [h0]⟩
    · exact ⟨_, _, rfl⟩
  obtain ⟨A', c', rfl⟩ := fin
  unfold Oper.wp execOp
  simp only [ho, resolve, invoke, builtin, Sem.run_bind, Sem.run_pure, Result.andThen_ok, List.map_toArray, List.map_cons, List.map_nil, hs, hx, hrun]
  exact h A' c' w' h2 h3 h5
end

end Go.Proofs.YtdkabldhkgidjaaDoor
