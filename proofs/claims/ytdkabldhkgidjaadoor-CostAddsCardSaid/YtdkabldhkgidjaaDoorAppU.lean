/-
  append in a region of the text's order, and where the new row lies; two rows beside one another. Of no program.
-/
import Derived.Test.YtdkabldhkgidjaaDoorAppT
namespace Go.Proofs.YtdkabldhkgidjaaDoor
set_option linter.unusedVariables false
set_option linter.unusedSimpArgs false
open Go.RowKit

section
variable {P : Program}
theorem wpList_appT {ops : Array Oper} {rest : List Oper} {o : Oper} {a : Act} {w : World} {Q : Exit → Act → World → Prop} (hgd : o.guard = none) (sx x : Operand) (t : TypeId)
    (ho : o.op = .call { callee := .builtin .append, args := #[sx, x], argTypes := #[t, t] })
    (s : Nat) (hs0 : 0 < s) (base : Nat) (e : TypeId) (i : TypeInfo) (z : Value) (bytes : Nat) (ht : P.underlying t = some (.slice e)) (hi : P.info? e = some i) (hz : i.zero = some z)
    (hsize : i.size = s) (hby : i.bytes = bytes) (hzs : z.cells.size = s) (A : Option Addr) (n c : Nat) (xs : List Value) (hs : a.eval sx = .slice A n c) (hown : OwnS s w base e A n c xs)
    (b o' : Nat) (m d : Nat) (news : List Value) (hx : a.eval x = .slice (some ⟨b, o', none⟩) m d) (hl : news.length = m * s) (hr : ∀ j u, news[j]? = some u → w.cell? ⟨b, o' + j, none⟩ = some u) (h1 : ∀ u ∈ news, u.oneCell' = true)
    (h63 : n + m ≤ maxLen) (hbytes : (n + m) * bytes ≤ 140737488355328) (hbase : base ≤ w.heap.size)
    (h : ∀ A' c' w', OwnS s w' base e A' (n + m) c' (xs ++ news) → w.grownBy w' (Value.slice A n c).ownBlock → ((Value.slice A' (n + m) c').ownBlock = (Value.slice A n c).ownBlock ∨ (Value.slice A' (n + m) c').ownBlock = some w.heap.size) → wpList P ops Q rest (a.put o.dst (.slice A' (n + m) c')) w') :
    wpList P ops Q (o :: rest) a w := by
  refine wpList_plain hgd fun K hK => ?_
  obtain ⟨v', w', hrun, h2, h3, _, h5⟩ := run_append_own_at (P := P) w base t o.type e i z s bytes ht hi hz hsize hby hzs hs0 (.slice A n c) n xs hown ⟨b, o', none⟩ m d news hl (fun j u hu => by rw [add_none]; exact hr j u hu) h1 h63 hbytes hbase
  have fin : ∃ A' c', v' = Value.slice A' (n + m) c' := by
    rcases h2.2 with ⟨rfl, h0⟩ | ⟨g, cap, cur, rfl, _⟩
    · exact ⟨none, 0, by rw [h0]⟩
    · exact ⟨_, _, rfl⟩
  obtain ⟨A', c', rfl⟩ := fin
  unfold Oper.wp execOp
  simp only [ho, resolve, invoke, builtin, Sem.run_bind, Sem.run_pure, Result.andThen_ok, List.map_toArray, List.map_cons, List.map_nil, hs, hx, hrun]
  exact hK _ _ (h A' c' w' h2 h3 h5)
end

/-- A row that another one's append leaves. -/
theorem OwnS.grown {s : Nat} {w w' : World} {B n c : Nat} {e : TypeId} {A : Option Addr} {xs : List Value} {row : Option Nat} (h : OwnS s w B e A n c xs) (hg : w.grownBy w' row) (hne : ∀ k, (Value.slice A 0 0).ownBlock = some k → some k ≠ row) : OwnS s w' B e A n c xs := by
  refine ⟨h.1, ?_⟩
  rcases h.2 with hn | ⟨g, cap, cur, hv, hb', hcur, rest⟩
  · exact .inl hn
  · have hx := hne g (by rw [own_any A 0 0 n c, hv]; rfl)
    exact .inr ⟨g, cap, cur, hv, hb', (hg.block g (Array.getElem?_eq_some_iff.1 hcur).1 hx).trans hcur, rest⟩
/-- Two rows of the call's own. -/
structure TwoRows (s : Nat) (e : TypeId) (B : Nat) (w : World) (A1 : Option Addr) (n1 c1 : Nat) (xs1 : List Value) (A2 : Option Addr) (n2 c2 : Nat) (xs2 : List Value) : Prop where
  r1 : OwnS s w B e A1 n1 c1 xs1
  r2 : OwnS s w B e A2 n2 c2 xs2
  ne : ∀ k, (Value.slice A1 0 0).ownBlock = some k → (Value.slice A2 0 0).ownBlock ≠ some k
section
variable {s : Nat} {e : TypeId} {B : Nat} {w w' : World} {A1 A2 : Option Addr} {n1 c1 n2 c2 : Nat} {xs1 xs2 : List Value}
theorem TwoRows.nil (w : World) (e : TypeId) (B : Nat) : TwoRows s e B w none 0 0 [] none 0 0 [] := ⟨OwnS.nil _ _ _, OwnS.nil _ _ _, fun k hk => by simp [Value.ownBlock] at hk⟩
theorem TwoRows.swap (h : TwoRows s e B w A1 n1 c1 xs1 A2 n2 c2 xs2) : TwoRows s e B w A2 n2 c2 xs2 A1 n1 c1 xs1 := ⟨h.r2, h.r1, fun k hk h2 => h.ne k h2 hk⟩
theorem TwoRows.below (h : TwoRows s e B w A1 n1 c1 xs1 A2 n2 c2 xs2) (hb : Below w.heap.size w w') : TwoRows s e B w' A1 n1 c1 xs1 A2 n2 c2 xs2 := ⟨h.r1.keep hb, h.r2.keep hb, h.ne⟩
theorem TwoRows.app (h : TwoRows s e B w A1 n1 c1 xs1 A2 n2 c2 xs2) {A' : Option Addr} {m c' : Nat} {ys : List Value} (ho : OwnS s w' B e A' m c' ys) (hg : w.grownBy w' (Value.slice A1 n1 c1).ownBlock)
    (hr : (Value.slice A' m c').ownBlock = (Value.slice A1 n1 c1).ownBlock ∨ (Value.slice A' m c').ownBlock = some w.heap.size) : TwoRows s e B w' A' m c' ys A2 n2 c2 xs2 := by
  have h2 := h.r2.own
  refine ⟨ho, h.r2.grown hg fun k hk e => ?_, fun k hk e => ?_⟩
  · rw [own_any A1 n1 c1 0 0] at e
    exact h.ne k e.symm hk
  · rw [own_any A' m c' 0 0] at hr
    rcases hr with hr | hr
    · rw [own_any A1 n1 c1 0 0] at hr
      exact h.ne k (hr ▸ hk) e
    · rw [hr] at hk
      injection hk with hk
      have := (h2 k (by rw [own_any A2 n2 c2 0 0]; exact e)).2
      omega
theorem OwnS.belowApp {A : Option Addr} {n c : Nat} {xs : List Value} (h : OwnS s w B e A n c xs) (hg : w.grownBy w' (Value.slice A n c).ownBlock) {B' : Nat} (hB : B' ≤ B) (hw : B' ≤ w.heap.size) : Below B' w w' :=
  (Below.refl _ _).grown hg hw fun k hk => by have := (h.own k hk).1; omega
end

end Go.Proofs.YtdkabldhkgidjaaDoor
