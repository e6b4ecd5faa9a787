/-
  The reference's Split: plain numbers of its picking, and its memory. No program.
-/
import Derived.Test.YtdkabldhkgidjaaDoorSplitM
namespace Go.Proofs.YtdkabldhkgidjaaDoor
set_option linter.unusedVariables false
set_option linter.unusedSimpArgs false
open Go.RowKit

/-- Rests of which the first k of the order have been picked. -/
def pick (r : List Int) (k : Nat) : List Int := (List.range r.length).map fun i => if inTop r k i = true then -1 else r.getD i 0
@[simp] theorem pick_length (r : List Int) (k : Nat) : (pick r k).length = r.length := by simp [pick]
theorem pick_zero (r : List Int) : pick r 0 = r := by
  apply List.ext_getElem
  · simp
  · intro i h1 h2
    simp [pick, inTop, h2]
theorem pick_get (r : List Int) (k i : Nat) (h : i < r.length) : (pick r k).getD i 0 = if inTop r k i = true then -1 else r.getD i 0 := by
  simp [pick, h]
theorem pick_step (r : List Int) (k : Nat) (hk : k < (ordOf r).length) : (pick r k).set (ordOf r)[k] (-1) = pick r (k + 1) := by
  have hs := fun i => inTop_succ r k i hk
  generalize (ordOf r)[k] = o at *
  apply List.ext_getElem
  · simp
  · intro i h1 h2
    simp only [List.getElem_set, pick, List.getElem_map, List.getElem_range]
    by_cases hi : o = i
    · subst hi
      simp [hs]
    · simp [hs, hi, Ne.symm hi]

/-- b is the first place of the greatest among the first i. -/
def Mst (l : List Int) (i b : Nat) : Prop := b < i ∧ ∀ j < i, l.getD j 0 < l.getD b 0 ∨ (l.getD j 0 = l.getD b 0 ∧ b ≤ j)
theorem Mst.one (l : List Int) : Mst l 1 0 := ⟨by omega, fun j hj => .inr ⟨by rw [show j = 0 by omega], by omega⟩⟩
theorem Mst.more {l : List Int} {i b : Nat} (h : Mst l i b) (hx : l.getD b 0 < l.getD i 0) : Mst l (i + 1) i := ⟨by omega, fun j hj => by
  by_cases e : j = i
  · subst e; exact .inr ⟨rfl, by omega⟩
  · rcases h.2 j (by omega) with h | h <;> exact .inl (by omega)⟩
theorem Mst.less {l : List Int} {i b : Nat} (h : Mst l i b) (hx : ¬ l.getD b 0 < l.getD i 0) : Mst l (i + 1) b := ⟨by have := h.1; omega, fun j hj => by
  by_cases e : j = i
  · subst e; have := h.1; omega
  · exact h.2 j (by omega)⟩
theorem Mst.pick {r : List Int} {k b : Nat} (h : Mst (pick r k) r.length b) (hr : ∀ x ∈ r, 0 ≤ x) (hk : k < (ordOf r).length) : b = (ordOf r)[k] := by
  obtain ⟨hb, h⟩ := h
  have ho : (ordOf r)[k] < r.length := (ordOf_mem r _).1 (List.getElem_mem hk)
  have hn := inTop_new r k hk
  have hs := fun i => inTop_succ r k i hk
  have hr0 : 0 ≤ r.getD (ordOf r)[k] 0 := by
    rw [List.getD_eq_getElem?_getD, List.getElem?_eq_getElem ho]
    exact hr _ (List.getElem_mem ho)
  have hah : ∀ j, j < r.length → inTop r k j = false → j ≠ (ordOf r)[k] → aheadB r (ordOf r)[k] j = true := by
    intro j hj hp hne
    refine top_ahead r (k + 1) _ j ?_ ?_ hj
    · rw [hs]; simp
    · rw [hs, hp]; simp [hne]
  generalize (ordOf r)[k] = o at *
  have h1 := h o ho
  rw [pick_get r k o ho, hn, pick_get r k b hb] at h1
  by_cases hp : inTop r k b = true
  · rw [hp] at h1; simp only [Bool.false_eq_true, reduceIte] at h1; omega
  · have hp' : inTop r k b = false := by simpa using hp
    rw [hp'] at h1
    simp only [Bool.false_eq_true, if_false] at h1
    by_cases hbo : b = o
    · exact hbo
    · have h2 := hah b hb hp' hbo
      unfold aheadB at h2
      simp only [decide_eq_true_eq] at h2
      omega

/-- Two blocks of the call's own, one behind the other, all else as it was. -/
structure Two (w wr : World) (p r : List Int) : Prop where
  below : Below w.heap.size w wr
  size : w.heap.size + 1 < wr.heap.size
  parts : Blk wr w.heap.size 2 (rowI .i64 p)
  rests : Blk wr (w.heap.size + 1) 2 (rowI .i64 r)
section
variable {w wr : World} {p r : List Int}
theorem Two.drewN (h : Two w wr p r) (k : Nat) : Two w (wr.drewN k) p r := ⟨below_drewN h.below _, h.size, h.parts, h.rests⟩
theorem Two.drew (h : Two w wr p r) : Two w wr.drew p r := ⟨h.below.drew, h.size, h.parts, h.rests⟩
theorem Two.setP (h : Two w wr p r) (i : Nat) (x : Int) : Two w (wr.setCell ⟨w.heap.size, i, none⟩ (.int .i64 x)) (p.set i x) r :=
  ⟨h.below.setCell (Nat.le_refl _) _, by simpa [World.setCell] using h.size, by rw [← rowI_set]; exact h.parts.set _ _, h.rests.far (by simp) _⟩
theorem Two.setR (h : Two w wr p r) (i : Nat) (x : Int) : Two w (wr.setCell ⟨w.heap.size + 1, i, none⟩ (.int .i64 x)) p (r.set i x) :=
  ⟨h.below.setCell (by simp) _, by simpa [World.setCell] using h.size, h.parts.far (by simp) _, by rw [← rowI_set]; exact h.rests.set _ _⟩
end
theorem Two.new (w : World) (n : Nat) : Two w ((w.alloc (.cells (rowI .i64 (List.replicate n 0)) 2)).alloc (.cells (rowI .i64 (List.replicate n 0)) 2)) (List.replicate n 0) (List.replicate n 0) :=
  ⟨((Below.refl _ _).alloc (Nat.le_refl _) _).alloc (by simp) _, by simp, (Blk.new _ _ _).alloc _, Blk.at _ _ _ (by simp)⟩
theorem Two.step {w wr : World} {n i : Nat} {P R : List Int} (h : Two w wr (part P n i) (part R n i)) (hi : i < n) (hP : P.length = n) (hR : R.length = n) {x y : Int} (hx : P.getD i 0 = x) (hy : R.getD i 0 = y) :
    Two w ((wr.setCell ⟨w.heap.size, i, none⟩ (.int .i64 x)).setCell ⟨w.heap.size + 1, i, none⟩ (.int .i64 y)) (part P n (i + 1)) (part R n (i + 1)) := by
  have h1 := (h.setP i x).setR i y
  subst hx hy
  rwa [part_set P n i hP hi, part_set R n i hR hi] at h1

theorem q_bd0 (T S x : Int) (hT : 0 ≤ T) (hS : 0 < S) (hx : 0 ≤ x) (hxS : x ≤ S) : 0 ≤ T * x / S ∧ T * x / S ≤ T := by
  have h1 : 0 ≤ T * x := Int.mul_nonneg (by omega) hx
  have h2 : T * x ≤ T * S := Int.mul_le_mul_of_nonneg_left hxS (by omega)
  refine ⟨Int.ediv_nonneg h1 (by omega), ?_⟩
  have h3 := Int.ediv_le_ediv hS h2
  rwa [Int.mul_ediv_cancel _ (by omega)] at h3
theorem rs_nonneg (T S : Int) (zs : List Int) (hS : 0 < S) : ∀ x ∈ rs T S zs, 0 ≤ x := fun x hx => (rs_bd T S zs hS x hx).1

end Go.Proofs.YtdkabldhkgidjaaDoor
