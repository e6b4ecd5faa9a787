/-
  AverageEnds: plain numbers, where all is at most what may be.
-/
import Derived.Test.YtbcmaaoddnaoiaaEndsNum
namespace Go.Proofs.Ytbcmaaoddnaoiaa
set_option linter.unusedVariables false
set_option linter.unusedSimpArgs false

theorem ends_partsN {L : List (ByteArray × Int)} {n : Nat} (h : mayB L = true) (hn : L.length = n) : partsOf (sumL (List.replicate n 0) + 0) (valsI L) = List.replicate n 0 := by
  rw [sumL_rep, Int.add_zero, parts_zero _ fun x hx => (mayB_amt h x hx).1, valsI_length, hn]
theorem ends_getsN (n : Nat) : subs (List.replicate n 0) (List.replicate n 0) n = List.replicate n 0 := by
  apply List.ext_getElem
  · simp
  · intro i h1 h2
    have h3 : i < n := by simpa using h2
    simp [subs, h3]
theorem ends_partsA {L : List (ByteArray × Int)} (h : mayB L = true) : partsOf (sumL (valsI L) + 0) (valsI L) = valsI L := by
  rw [Int.add_zero]
  apply List.ext_getElem
  · simp
  · intro i h1 h2
    have := parts_full (valsI L) (fun x hx => (mayB_amt h x hx).1) i h2
    rw [List.getD_eq_getElem?_getD, List.getElem?_eq_getElem h1] at this
    exact this
theorem ends_getsA {L : List (ByteArray × Int)} {n : Nat} (hn : L.length = n) : subs (valsI L) (valsI L) n = List.replicate n 0 := by
  apply List.ext_getElem
  · simp [hn]
  · intro i h1 h2
    have h3 : i < n := by simpa using h2
    simp [subs, h3]
theorem ends_debtsA {L : List (ByteArray × Int)} (h : mayB L = true) : debtsOf L (valsI L) 0 = [] := by
  have e : getsOf L (valsI L) 0 = List.replicate L.length 0 := by
    unfold getsOf
    rw [ends_partsA h, ends_getsA rfl]
  unfold debtsOf
  rw [e, payS_none]
  intro i
  simp [List.getElem?_replicate]
  split <;> simp

/-- The interests and nobody. -/
def oneL (L : List (ByteArray × Int)) (s : ByteArray) : List (ByteArray × Int) := L ++ [(s, 0)]
theorem oneL_cells (L : List (ByteArray × Int)) (s : ByteArray) : cellsI (oneL L s) = cellsI L ++ [.string s, .int .i64 0] := by
  unfold oneL
  induction L with
  | nil => rfl
  | cons p r ih => simp only [List.cons_append, cellsI, ih]
theorem oneL_len (L : List (ByteArray × Int)) (s : ByteArray) : (oneL L s).length = L.length + 1 := by simp [oneL]
theorem oneL_val (L : List (ByteArray × Int)) (s : ByteArray) (h : L.length < (valsI (oneL L s)).length) : (valsI (oneL L s))[L.length] = 0 := by
  simp [valsI, oneL]
theorem one_gone (n : Nat) : vals .i64 (List.replicate n 0) ++ vals .i64 [0] = vals .i64 (List.replicate (n + 1) 0) := by
  rw [vals_append]
  congr 1
  exact (List.replicate_succ' ..).symm
/-- Nobody bears nothing. -/
theorem one_parts {L : List (ByteArray × Int)} {s : ByteArray} {t : Int} {n : Nat} (hn : L.length = n) (he : wholeE (oneL L s) (List.replicate (n + 1) 0) t = 0) :
    (partsOf (sumL (List.replicate (n + 1) 0) + t) (valsI (oneL L s))).getD n 0 = 0 ∧ (subs (List.replicate (n + 1) 0) (partsOf (sumL (List.replicate (n + 1) 0) + t) (valsI (oneL L s))) (n + 1)).getD n 0 = 0 := by
  have F := whole_facts he
  obtain ⟨h1, h2, h3⟩ := wholeE_zero he
  obtain ⟨g1, g2, g3, g4⟩ := adjE_zero h3
  have e1 : (partsOf (sumL (List.replicate (n + 1) 0) + t) (valsI (oneL L s))).getD n 0 = 0 := by
    subst hn
    exact parts_none _ _ g3 g2 (fun x hx => (F.vb x hx).1) L.length (by rw [valsI_length, oneL_len]; omega) (oneL_val L s _)
  refine ⟨e1, ?_⟩
  rw [subs_get _ _ _ _ (by simp), if_pos (by omega), e1]
  simp

end Go.Proofs.Ytbcmaaoddnaoiaa
