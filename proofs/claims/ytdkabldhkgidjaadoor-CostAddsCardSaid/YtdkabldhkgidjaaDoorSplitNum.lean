/-
  Plain numbers: a total shared out by weights. No program.
-/
namespace Go.Proofs.YtdkabldhkgidjaaDoor
set_option linter.unusedVariables false

def sumL : List Int → Int
  | [] => 0
  | x :: r => x + sumL r
theorem sumL_append (a b : List Int) : sumL (a ++ b) = sumL a + sumL b := by
  induction a with
  | nil => simp [sumL]
  | cons x r ih => simp [sumL, ih]; omega
theorem sumL_nonneg (l : List Int) (h : ∀ x ∈ l, 0 ≤ x) : 0 ≤ sumL l := by
  induction l with
  | nil => simp [sumL]
  | cons x r ih =>
    have h1 := h x (by simp)
    have h2 := ih (fun y hy => h y (by simp [hy]))
    simp [sumL]; omega
theorem sumL_le (l : List Int) (B : Int) (h : ∀ x ∈ l, x ≤ B) : sumL l ≤ B * l.length := by
  induction l with
  | nil => simp [sumL]
  | cons x r ih =>
    have h1 := h x (by simp)
    have h2 := ih (fun y hy => h y (by simp [hy]))
    simp only [sumL, List.length_cons, Int.natCast_add, Int.mul_add]
    omega

theorem sumL_take_succ' (zs : List Int) (k : Nat) (h : k < zs.length) : sumL (zs.take (k + 1)) = sumL (zs.take k) + zs[k] := by
  rw [List.take_succ_eq_append_getElem h, sumL_append]
  simp [sumL]
/-- Whole parts and rests. -/
def qs (T S : Int) (ws : List Int) : List Int := ws.map fun w => T * w / S
def rs (T S : Int) (ws : List Int) : List Int := ws.map fun w => T * w % S
/-- What is left when the whole parts are given. -/
def lft (T : Int) (ws : List Int) : Int := T - sumL (qs T (sumL ws) ws)

theorem split_sum (T S : Int) (ws : List Int) : S * sumL (qs T S ws) + sumL (rs T S ws) = T * sumL ws := by
  induction ws with
  | nil => simp [qs, rs, sumL]
  | cons w r ih =>
    have h := Int.mul_ediv_add_emod (T * w) S
    simp only [qs, rs, List.map_cons, sumL] at ih ⊢
    simp only [Int.mul_add]
    omega

/-- The rests are 'left' times the sum. -/
theorem left_eq (T : Int) (ws : List Int) : sumL (rs T (sumL ws) ws) = lft T ws * sumL ws := by
  have h := split_sum T (sumL ws) ws
  unfold lft
  rw [Int.sub_mul, Int.mul_comm (sumL (qs T (sumL ws) ws))]
  omega
theorem rs_bd (T S : Int) (ws : List Int) (hS : 0 < S) : ∀ x ∈ rs T S ws, 0 ≤ x ∧ x ≤ S - 1 := by
  intro x hx
  simp only [rs, List.mem_map] at hx
  obtain ⟨w, _, rfl⟩ := hx
  have h1 := Int.emod_nonneg (T * w) (show S ≠ 0 by omega)
  have h2 := Int.emod_lt_of_pos (T * w) hS
  omega
theorem left_bd (T : Int) (ws : List Int) (hS : 0 < sumL ws) : 0 ≤ lft T ws ∧ lft T ws < ws.length := by
  have h1 := left_eq T ws
  have h2 := sumL_nonneg (rs T (sumL ws) ws) fun x hx => (rs_bd T _ ws hS x hx).1
  have h3 := sumL_le (rs T (sumL ws) ws) (sumL ws - 1) fun x hx => (rs_bd T _ ws hS x hx).2
  have h4 : (rs T (sumL ws) ws).length = ws.length := by simp [rs]
  rw [h4] at h3
  have hn : 0 < ws.length := by
    cases ws with
    | nil => simp [sumL] at hS
    | cons a l => simp
  generalize sumL ws = S at *
  generalize lft T ws = L at *
  constructor
  · rcases Int.lt_or_le L 0 with h | h
    · have := Int.mul_neg_of_neg_of_pos h hS; omega
    · exact h
  · rcases Int.lt_or_le L ws.length with h | h
    · exact h
    · have k1 : (ws.length : Int) * S ≤ L * S := Int.mul_le_mul_of_nonneg_right h (by omega)
      have k2 : (S - 1) * (ws.length : Int) = (ws.length : Int) * S - ws.length := by rw [Int.sub_mul, Int.mul_comm S]; omega
      omega

/-- Who stands ahead: the greater rest; of alike ones the first place. -/
def aheadB (r : List Int) (i j : Nat) : Bool := decide (r.getD j 0 < r.getD i 0 ∨ (r.getD j 0 = r.getD i 0 ∧ i ≤ j))
theorem aheadB_trans (r : List Int) (i j k : Nat) (h1 : aheadB r i j = true) (h2 : aheadB r j k = true) : aheadB r i k = true := by
  unfold aheadB at *
  simp only [decide_eq_true_eq] at *
  omega
theorem aheadB_total (r : List Int) (i j : Nat) : (aheadB r i j || aheadB r j i) = true := by
  unfold aheadB
  simp only [Bool.or_eq_true, decide_eq_true_eq]
  omega
theorem aheadB_anti (r : List Int) (i j : Nat) (h1 : aheadB r i j = true) (h2 : aheadB r j i = true) : i = j := by
  unfold aheadB at *
  simp only [decide_eq_true_eq] at *
  omega
/-- The places in that order. -/
def ordOf (r : List Int) : List Nat := (List.range r.length).mergeSort (aheadB r)
theorem ordOf_perm (r : List Int) : (ordOf r).Perm (List.range r.length) := List.mergeSort_perm _ _
theorem ordOf_sorted (r : List Int) : (ordOf r).Pairwise (fun i j => aheadB r i j = true) :=
  List.pairwise_mergeSort (fun a b c => aheadB_trans r a b c) (fun a b => aheadB_total r a b) _
theorem ordOf_length (r : List Int) : (ordOf r).length = r.length := by simpa using (ordOf_perm r).length_eq
theorem ordOf_nodup (r : List Int) : (ordOf r).Nodup := (ordOf_perm r).nodup_iff.2 List.nodup_range
theorem ordOf_mem (r : List Int) (i : Nat) : i ∈ ordOf r ↔ i < r.length := by rw [(ordOf_perm r).mem_iff]; simp

/-- Is a place among the first k? -/
def inTop (r : List Int) (k i : Nat) : Bool := decide (i ∈ (ordOf r).take k)
/-- Whoever is among the first stands ahead of whoever isn't. -/
theorem top_ahead (r : List Int) (k i j : Nat) (hi : inTop r k i = true) (hj : inTop r k j = false) (hjl : j < r.length) : aheadB r i j = true := by
  unfold inTop at *
  simp only [decide_eq_true_eq, decide_eq_false_iff_not] at *
  have hs := ordOf_sorted r
  rw [← List.take_append_drop k (ordOf r), List.pairwise_append] at hs
  refine hs.2.2 i hi j ?_
  have := (ordOf_mem r j).2 hjl
  rw [← List.take_append_drop k (ordOf r), List.mem_append] at this
  exact this.resolve_left hj

/-- The parts. -/
def partsOf (T : Int) (ws : List Int) : List Int :=
  (List.range ws.length).map fun i => (qs T (sumL ws) ws).getD i 0 + if inTop (rs T (sumL ws) ws) (lft T ws).toNat i = true then 1 else 0

end Go.Proofs.YtdkabldhkgidjaaDoor
