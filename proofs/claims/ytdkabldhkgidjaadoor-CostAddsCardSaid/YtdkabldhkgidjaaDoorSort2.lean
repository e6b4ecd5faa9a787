/-
  share.Split's sorting of its places: slices.SortFunc's contract, at the comparison.
-/
import Derived.Test.YtdkabldhkgidjaaDoorSort1
import Derived.Test.YtdkabldhkgidjaaDoorSplitNum
import Derived.Test.YtdkabldhkgidjaaDoorRowI
import Derived.Test.YtdkabldhkgidjaaDoorShelf
import Derived.Test.YtdkabldhkgidjaaDoorWrong
namespace Go.Proofs.YtdkabldhkgidjaaDoor
set_option linter.unusedVariables false
set_option linter.unusedSimpArgs false
open Go.RowKit Go.Sort

section
variable {α : Type} [Inhabited α] {enc : α → Value} {w : World} {blk n : Nat} {d : Array α} {os : Array Obj} {t : TypeId} {cs : Array Value}
theorem sw_row (h : Blk w blk t cs) (hs : cs.size = d.size) : Blk (sortWorld enc w blk 0 n d os) blk t (d.map enc) := by
  have hl := h.lt
  unfold Blk at h ⊢
  unfold sortWorld
  rw [heap_grow_old _ _ (by simpa [putRow, mapBlock, ahead] using hl)]
  simp [putRow, mapBlock, ahead, Array.getElem?_modify, h, onCells, putCells]
  apply Array.ext_getElem?
  intro i
  simp only [Array.getElem?_mapIdx, Array.getElem?_map]
  by_cases hi : i < d.size
  · rw [Array.getElem?_eq_getElem (by omega), Array.getElem?_eq_getElem hi]
    simp [hi]
  · rw [Array.getElem?_eq_none (by omega), Array.getElem?_eq_none (by omega)]
    rfl
theorem sw_far {g : Nat} (h : Blk w g t cs) (hg : g ≠ blk) : Blk (sortWorld enc w blk 0 n d os) g t cs := by
  have hl := h.lt
  unfold Blk at h ⊢
  unfold sortWorld
  rw [heap_grow_old _ _ (by simpa [putRow, mapBlock, ahead] using hl)]
  simp [putRow, mapBlock, ahead, Array.getElem?_modify, h, Ne.symm hg]
theorem sw_below (hb : blk < w.heap.size) : Below blk w (sortWorld enc w blk 0 n d os) := by
  refine ⟨rfl, rfl, rfl, ?_, fun k hk => ?_⟩
  · simp [sortWorld, putRow, mapBlock, ahead]
  · unfold sortWorld
    rw [heap_grow_old _ _ (by simp [putRow, mapBlock, ahead]; omega)]
    simp [putRow, mapBlock, ahead, Array.getElem?_modify, show ¬ blk = k by omega]
end

def cfF (r : List Int) (n : Nat) (x y : Fin n) : Int := or2 (sgn (r.getD y 0) (r.getD x 0)) (sgn x y)
theorem ltF (r : List Int) (n : Nat) (x y : Fin n) : ltOf (cfF r n) x y = decide (r.getD y 0 < r.getD x 0 ∨ (r.getD y 0 = r.getD x 0 ∧ x.val < y.val)) := by
  unfold ltOf cfF or2 sgn
  generalize r.getD y 0 = a
  generalize r.getD x 0 = b
  apply decide_eq_decide.2
  obtain ⟨x, hx⟩ := x
  obtain ⟨y, hy⟩ := y
  simp only
  repeat' split
  all_goals first | omega | (simp at *; omega)
theorem swoF (r : List Int) (n : Nat) : SWO (ltOf (cfF r n)) where
  irrefl x := by rw [ltF]; simp
  trans x y z h1 h2 := by rw [ltF] at *; simp at *; omega
  ntrans x y z h1 h2 := by rw [ltF] at *; simp at *; omega
theorem totF (r : List Int) (n : Nat) (x y : Fin n) (h1 : ltOf (cfF r n) x y = false) (h2 : ltOf (cfF r n) y x = false) : x = y := by
  rw [ltF] at *
  simp at *
  apply Fin.ext
  omega
theorem finR (n : Nat) : (List.finRange n).map Fin.val = List.range n := by
  apply List.ext_getElem
  · simp
  · intro i h1 h2
    simp
theorem ordF (r : List Int) (n : Nat) (hn : r.length = n) : (((List.finRange n).mergeSort fun x y => !ltOf (cfF r n) y x).map Fin.val) = ordOf r := by
  unfold ordOf
  rw [hn, ← finR n]
  apply List.map_mergeSort
  intro a _ b _
  rw [ltF]
  unfold aheadB
  rw [← decide_not]
  apply decide_eq_decide.2
  omega

theorem e_split1 : EntersIs 51 := enters_of Tryd.func51 (by kernel_rfl) rfl


theorem c_sort (m : Nat) (hm : m < 4096) (r : List Int) (hr : r.length = m + 1) (w : World) (P R L : Nat) (tp tr tl : TypeId)
    (hp : Blk w P tp #[.slice (some ⟨R, 0, none⟩) (m + 1 : Nat) (m + 1 : Nat)]) (hR : Blk w R tr (rowI .u64 r)) (hL : Blk w L tl (rowN (List.range (m + 1)))) (h1 : P ≠ L) (h2 : R ≠ L) :
    Calls Tryd.prog 50 #[.slice (some ⟨L, 0, none⟩) (m + 1 : Nat) (m + 1 : Nat), .func (.func 51) #[] #[.pointer (some ⟨P, 0, none⟩)]] w fun e w' =>
      e = .returned (.tuple #[]) ∧ Below L w w' ∧ Blk w' L tl (rowN (ordOf r)) ∧ (∀ g t cs, Blk w g t cs → g ≠ L → Blk w' g t cs) := by
  have hLt := hL.lt
  let d : Array (Fin (m + 1)) := (List.finRange (m + 1)).toArray
  have hds : d.size = m + 1 := by simp [d]
  let enc : Fin (m + 1) → Value := fun i => .int .i64 ((i.val : Nat) : Int)
  have hdg : ∀ j (h : j < m + 1), d[j]! = ⟨j, h⟩ := by
    intro j h
    rw [getElem!_pos d j (by omega)]
    simp [d]
  have hH : Holds enc w L 0 d := by
    intro j hj
    refine ⟨?_, hL.free _⟩
    have hj' : j < m + 1 := by omega
    rw [hdg j hj']
    refine hL.cell _ ?_
    rw [Nat.zero_add, rowN_get _ _ (by simpa using hj')]
    simp [enc, hj']
  have hcmp : CmpLays1 Tryd.prog 51 #[.pointer (some ⟨P, 0, none⟩)] enc (cfF r (m + 1)) L 0 d.size w := by
    intro k os dk hs x y
    have b1 := sw_far (n := k) (d := dk) (os := os) (enc := enc) hp h1
    have b2 := sw_far (n := k) (d := dk) (os := os) (enc := enc) hR h2
    refine (c_split1 _ P R (m + 1) x.val y.val (r.getD x.val 0) (r.getD y.val 0) x.isLt y.isLt (by omega) (b1.cell 0 rfl) (b2.cell _ (rowI_get _ _ _ (by omega))) (b2.cell _ (rowI_get _ _ _ (by omega)))).mono ?_
    rintro e w' ⟨rfl, o, rfl⟩
    exact ⟨rfl, 1, #[o], by rw [alloc_eq_grow]; rfl⟩
  have h := Tryd.slices_SortFunc_total enc (fun _ => rfl) (cfF r (m + 1)) (swoF r _) 51 #[.pointer (some ⟨P, 0, none⟩)] L 0 (m + 1) d w e_split1 hcmp hH hLt (by omega) (totF r _)
  rw [hds] at h
  refine h.mono ?_
  rintro e w' ⟨rfl, n, os, rfl⟩
  refine ⟨rfl, sw_below hLt, ?_, fun g t cs hb hg => sw_far hb hg⟩
  have b := sw_row (n := n) (os := os) (enc := enc) (d := (d.toList.mergeSort fun x y => !(ltOf (cfF r (m + 1))) y x).toArray) hL (by simp [d])
  have e : ((d.toList.mergeSort fun x y => !(ltOf (cfF r (m + 1))) y x).toArray).map enc = rowN (ordOf r) := by
    rw [← ordF r (m + 1) hr]
    simp [rowN, enc, d]
  rw [e] at b
  exact b

end Go.Proofs.YtdkabldhkgidjaaDoor
