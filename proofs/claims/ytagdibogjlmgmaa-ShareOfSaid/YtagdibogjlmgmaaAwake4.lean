/-
  The fourth layer's first words.
-/
import Derived.Test.YtagdibogjlmgmaaSplit
import Derived.Test.YtagdibogjlmgmaaSame
namespace Go.Proofs.Ytagdibogjlmgmaa
set_option linter.unusedVariables false
set_option linter.unusedSimpArgs false
open Go.RowKit

theorem ord3a : ordOf [1, 1, 1] = [0, 1, 2] := by
  simp [ordOf, List.mergeSort, List.range, List.range.loop, List.MergeSort.Internal.splitInTwo, List.merge, aheadB]
theorem ord3b : ordOf [5, 0, 5] = [0, 2, 1] := by
  simp [ordOf, List.mergeSort, List.range, List.range.loop, List.MergeSort.Internal.splitInTwo, List.merge, aheadB]

theorem aw1 : errS 10 [1, 1, 1] = 0 ∧ partsOf 10 [1, 1, 1] = [4, 3, 3] := by
  refine ⟨by decide, ?_⟩
  have e1 : sumL [1, 1, 1] = 3 := by decide
  have e2 : rs 10 3 [1, 1, 1] = [1, 1, 1] := by decide
  have e3 : lft 10 [1, 1, 1] = 1 := by decide
  have e4 : qs 10 3 [1, 1, 1] = [3, 3, 3] := by decide
  simp [partsOf, inTop, e1, e2, e3, e4, ord3a, List.range, List.range.loop]
theorem aw2 : errS 7 [5, 0, 5] = 0 ∧ partsOf 7 [5, 0, 5] = [4, 0, 3] := by
  refine ⟨by decide, ?_⟩
  have e1 : sumL [5, 0, 5] = 10 := by decide
  have e2 : rs 7 10 [5, 0, 5] = [5, 0, 5] := by decide
  have e3 : lft 7 [5, 0, 5] = 1 := by decide
  have e4 : qs 7 10 [5, 0, 5] = [3, 0, 3] := by decide
  simp [partsOf, inTop, e1, e2, e3, e4, ord3b, List.range, List.range.loop]

theorem Rd.blk {w : World} {b : Nat} {t : TypeId} {k : IntKind} {l : List Int} (h : Blk w b t (rowI k l)) : Rd w (some ⟨b, 0, none⟩) (vals k l) := fun _ => by
  refine ⟨b, 0, rfl, h.lt, fun j v hv => ?_⟩
  rw [Nat.zero_add]
  exact h.cell j (by simpa [rowI, vals] using hv)
theorem Rd.row {w : World} {b : Nat} {t : TypeId} {k : IntKind} {l : List Int} {cs : Array Value} (h : cs = rowI k l) (hb : b = w.heap.size) : Rd (w.alloc (.cells cs t)) (some ⟨b, 0, none⟩) (vals k l) := by
  subst h
  exact Rd.blk (Blk.at w t _ hb)

set_option maxHeartbeats 800000 in
theorem c_awake04 (w : World) : Calls Try.prog 22 #[] w fun e w' => e = .returned (.bool true) ∧ Below w.heap.size w w' := by
  go_enter Try.func22, Try.ntmps22
  go_wp2_with fail
  refine (c_split 10 _ 3 3 [1, 1, 1] _ rfl (by exact Rd.row rfl rfl) aw1.1).mono ?_
  rintro e w1 ⟨b1, t1, rfl, hl1, hb, hP1⟩
  rw [aw1.2] at hP1
  have hB1 : Below w.heap.size w w1 := Below.trans (by go_grown) (hb.mono (by simp))
  have hz1 := hB1.size
  clear hb
  go_wp2_with fail
  refine (c_split 7 _ 3 3 [5, 0, 5] _ rfl (by exact Rd.row rfl rfl) aw2.1).mono ?_
  rintro e w2 ⟨b2, t2, rfl, hl2, hb, hP2⟩
  rw [aw2.2] at hP2
  have hP1 := (hP1.alloc _).below hb (by have := hP1.lt; simp; omega)
  have hB2 : Below w.heap.size w w2 := Below.trans (hB1.alloc hz1 _) (hb.mono (by simp; omega))
  have hz2 := hB2.size
  clear hb hB1 hz1
  go_wp2_with fail
  refine (c_same _ _ 3 3 3 3 [4, 3, 3] [4, 3, 3] _ rfl rfl (by decide) (by decide) (by exact Rd.blk (hP1.alloc _)) (by exact Rd.row rfl rfl)).mono ?_
  rintro e w' ⟨rfl, q1, rfl⟩
  go_wp2_with fail
  refine (c_same _ _ 3 3 3 3 [4, 0, 3] [4, 0, 3] _ rfl rfl (by decide) (by decide) (by exact Rd.blk ((hP2.alloc _).alloc _)) (by exact Rd.row rfl (by simp))).mono ?_
  rintro e w' ⟨rfl, q2, rfl⟩
  go_wp2_with fail
  go_ret
  exact ⟨rfl, below_drewN ((hB2.alloc hz2 _).alloc (by simp; omega) _) _⟩

end Go.Proofs.Ytagdibogjlmgmaa
