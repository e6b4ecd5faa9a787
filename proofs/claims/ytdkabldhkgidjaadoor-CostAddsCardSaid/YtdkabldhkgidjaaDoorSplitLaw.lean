/-
  What the parts of a split are good for. No program.
-/
import Derived.Test.YtdkabldhkgidjaaDoorSplitM
import Derived.Test.YtdkabldhkgidjaaDoorErrNum
namespace Go.Proofs.YtdkabldhkgidjaaDoor
set_option linter.unusedVariables false
set_option linter.unusedSimpArgs false

theorem sumL_set (l : List Int) (i : Nat) (x : Int) (h : i < l.length) : sumL (l.set i x) = sumL l - l.getD i 0 + x := by
  induction l generalizing i with
  | nil => simp at h
  | cons y r ih =>
    cases i with
    | zero => simp [sumL]; omega
    | succ i =>
      simp only [List.set_cons_succ, sumL, List.getD_cons_succ]
      rw [ih i (by simpa using h)]
      omega
theorem bump_sum (Q r : List Int) (hQ : r.length = Q.length) (k : Nat) (hk : k ≤ r.length) : sumL (bump Q r k) = sumL Q + k := by
  induction k with
  | zero => rw [bump_zero]; simp
  | succ k ih =>
    have hko : k < (ordOf r).length := by rw [ordOf_length]; omega
    have ho := (ordOf_mem r _).1 (List.getElem_mem hko)
    rw [← bump_step Q r k hko rfl hQ, sumL_set _ _ _ (by rw [bump_length]; omega), ih (by omega)]
    omega
@[simp] theorem partsOf_length (T : Int) (zs : List Int) : (partsOf T zs).length = zs.length := by simp [partsOf]
theorem parts_sum (T : Int) (zs : List Int) (hS : 0 < sumL zs) : sumL (partsOf T zs) = T := by
  have h := left_bd T zs hS
  rw [parts_bump, bump_sum _ _ (by simp [qs, rs]) _ (by simp [rs]; omega)]
  unfold lft at *
  omega

theorem sumL_perm {a b : List Int} (h : a.Perm b) : sumL a = sumL b := by
  induction h with
  | nil => rfl
  | cons x _ ih => simp [sumL, ih]
  | swap x y l => simp [sumL]; omega
  | trans _ _ h1 h2 => rw [h1, h2]
theorem map_getD (r : List Int) : (List.range r.length).map (fun i => r.getD i 0) = r := by
  apply List.ext_getElem
  · simp
  · intro i h1 h2; simp [h2]
/-- Whoever is among the first 'left' has a rest. -/
theorem top_pos (r : List Int) (S L : Int) (h0 : ∀ x ∈ r, 0 ≤ x ∧ x ≤ S - 1) (hS : sumL r = L * S) (hp : 0 < S) (i : Nat) (hi : inTop r L.toNat i = true) : 0 < r.getD i 0 := by
  have hs := ordOf_sorted r
  have hsum : sumL ((ordOf r).map fun i => r.getD i 0) = L * S := by
    rw [← hS]
    conv => rhs; rw [← map_getD r]
    exact sumL_perm ((ordOf_perm r).map _)
  have hb : ∀ j ∈ ordOf r, 0 ≤ r.getD j 0 ∧ r.getD j 0 ≤ S - 1 := by
    intro j hj
    have hjl := (ordOf_mem r j).1 hj
    have e : r.getD j 0 = r[j] := by simp [hjl]
    rw [e]
    exact h0 _ (List.getElem_mem hjl)
  unfold inTop at hi
  simp only [decide_eq_true_eq] at hi
  generalize ordOf r = o at *
  rcases Int.lt_or_le 0 (r.getD i 0) with hpos | hle
  · exact hpos
  exfalso
  obtain ⟨p, hp1, hp2⟩ := List.mem_iff_getElem.1 hi
  have hp3 : p < L.toNat ∧ p < o.length := by simp at hp1; omega
  have hp4 : o[p]'hp3.2 = i := by rw [← hp2]; simp
  -- all behind place p have no rest
  have h1 : sumL (((o.drop p).map fun i => r.getD i 0)) = 0 := by
    have hz : ∀ j ∈ o.drop p, r.getD j 0 = 0 := by
      intro j hj
      have hj2 := hb j (List.mem_of_mem_drop hj)
      rw [List.drop_eq_getElem_cons hp3.2] at hj
      rcases List.mem_cons.1 hj with e | hj
      · rw [e, hp4] at hj2 ⊢; omega
      · rw [← List.take_append_drop (p + 1) o, List.pairwise_append] at hs
        have ha := hs.2.2 i (by
          rw [List.take_succ_eq_append_getElem hp3.2, hp4]; simp) j hj
        unfold aheadB at ha
        simp only [decide_eq_true_eq] at ha
        omega
    generalize o.drop p = d at *
    induction d with
    | nil => rfl
    | cons x d ih =>
      simp only [List.map_cons, sumL]
      rw [hz x (by simp), ih (fun j hj => hz j (by simp [hj]))]; rfl
  have h2 : sumL (((o.take p).map fun i => r.getD i 0)) ≤ (S - 1) * p := by
    have := sumL_le ((o.take p).map fun i => r.getD i 0) (S - 1) (by
      intro x hx
      simp only [List.mem_map] at hx
      obtain ⟨j, hj, rfl⟩ := hx
      exact (hb j (List.mem_of_mem_take hj)).2)
    have e : ((o.take p).map fun i => r.getD i 0).length = p := by simp; omega
    rw [e] at this
    exact this
  have h3 : sumL (o.map fun i => r.getD i 0) = sumL (((o.take p).map fun i => r.getD i 0)) + sumL (((o.drop p).map fun i => r.getD i 0)) := by
    rw [← sumL_append, ← List.map_append, List.take_append_drop]
  have h4 : (p : Int) + 1 ≤ L := by omega
  have h5 : ((p : Int) + 1) * S ≤ L * S := Int.mul_le_mul_of_nonneg_right h4 (by omega)
  have h6 : (S - 1) * (p : Int) = (p : Int) * S - p := by rw [Int.sub_mul, Int.mul_comm S]; omega
  have h7 : ((p : Int) + 1) * S = (p : Int) * S + S := by rw [Int.add_mul]; omega
  omega

theorem parts_get (T : Int) (zs : List Int) (i : Nat) (h : i < zs.length) :
    (partsOf T zs).getD i 0 = T * zs[i] / sumL zs + if inTop (rs T (sumL zs) zs) (lft T zs).toNat i = true then 1 else 0 := by
  rw [parts_bump, bump_get _ _ _ _ (by simpa [qs] using h), qs_getD _ _ _ _ h]
/-- A part is its share rounded down, or one more, where something is left. -/
theorem parts_near (T : Int) (zs : List Int) (hS : 0 < sumL zs) (i : Nat) (h : i < zs.length) :
    (partsOf T zs).getD i 0 = T * zs[i] / sumL zs ∨ ((partsOf T zs).getD i 0 = T * zs[i] / sumL zs + 1 ∧ T * zs[i] % sumL zs ≠ 0) := by
  rw [parts_get T zs i h]
  by_cases ht : inTop (rs T (sumL zs) zs) (lft T zs).toNat i = true
  · rw [if_pos ht]
    refine .inr ⟨rfl, ?_⟩
    have := top_pos (rs T (sumL zs) zs) (sumL zs) (lft T zs) (rs_bd T _ zs hS) (left_eq T zs) hS i ht
    rw [rs_getD _ _ _ _ h] at this
    omega
  · rw [if_neg ht]
    exact .inl (by omega)
theorem parts_nonneg (T : Int) (zs : List Int) (hT : 0 ≤ T) (hz : ∀ x ∈ zs, 0 ≤ x) : ∀ x ∈ partsOf T zs, 0 ≤ x := by
  intro x hx
  have hS := sumL_nonneg zs hz
  obtain ⟨i, hi, rfl⟩ := List.mem_iff_getElem.1 hx
  have hi' : i < zs.length := by simpa using hi
  have e : (partsOf T zs)[i] = (partsOf T zs).getD i 0 := by simp [hi']
  rw [e, parts_get T zs i hi']
  have h1 : 0 ≤ T * zs[i] / sumL zs := Int.ediv_nonneg (Int.mul_nonneg hT (hz _ (List.getElem_mem hi'))) hS
  split <;> omega
theorem sumL_take_le (l : List Int) (h : ∀ x ∈ l, 0 ≤ x) (k : Nat) : 0 ≤ sumL (l.take k) ∧ sumL (l.take k) ≤ sumL l := by
  have h1 := sumL_nonneg (l.take k) fun x hx => h x (List.mem_of_mem_take hx)
  have h2 := sumL_nonneg (l.drop k) fun x hx => h x (List.mem_of_mem_drop hx)
  have h3 := sumL_append (l.take k) (l.drop k)
  rw [List.take_append_drop] at h3
  omega

/-- Of two places. -/
theorem parts_two (T : Int) (zs : List Int) (hT : 0 ≤ T) (hz : ∀ x ∈ zs, 0 ≤ x) (hS : 0 < sumL zs) (i k : Nat) (hi : i < zs.length) (hk : k < i) :
    (zs[k] < zs[i] → (partsOf T zs).getD k 0 ≤ (partsOf T zs).getD i 0) ∧ (zs[i] < zs[k] → (partsOf T zs).getD i 0 ≤ (partsOf T zs).getD k 0) ∧
    (zs[i] = zs[k] → (partsOf T zs).getD i 0 ≤ (partsOf T zs).getD k 0 ∧ (partsOf T zs).getD k 0 ≤ (partsOf T zs).getD i 0 + 1) := by
  have hkl : k < zs.length := by omega
  by_cases h0 : T = 0
  · subst h0
    rw [parts_zero zs hz]
    simp [hi, hkl]
  have hT' : 0 < T := by omega
  rw [parts_get T zs i hi, parts_get T zs k hkl]
  have ri : (rs T (sumL zs) zs).getD i 0 = T * zs[i] % sumL zs := rs_getD _ _ _ _ hi
  have rk : (rs T (sumL zs) zs).getD k 0 = T * zs[k] % sumL zs := rs_getD _ _ _ _ hkl
  have hlen : (rs T (sumL zs) zs).length = zs.length := by simp [rs]
  have a1 := top_ahead (rs T (sumL zs) zs) (lft T zs).toNat i k
  have a2 := top_ahead (rs T (sumL zs) zs) (lft T zs).toNat k i
  unfold aheadB at a1 a2
  rw [ri, rk] at a1 a2
  rw [hlen] at a1 a2
  simp only [decide_eq_true_eq] at a1 a2
  generalize inTop (rs T (sumL zs) zs) (lft T zs).toNat i = ti at *
  generalize inTop (rs T (sumL zs) zs) (lft T zs).toNat k = tk at *
  clear ri rk hlen
  generalize zs[i] = x at *
  generalize zs[k] = y at *
  generalize sumL zs = S at *
  have m1 := Int.mul_ediv_add_emod (T * x) S
  have m2 := Int.mul_ediv_add_emod (T * y) S
  have n1 := Int.emod_nonneg (T * x) (show S ≠ 0 by omega)
  have n2 := Int.emod_nonneg (T * y) (show S ≠ 0 by omega)
  have n3 := Int.emod_lt_of_pos (T * x) hS
  have n4 := Int.emod_lt_of_pos (T * y) hS
  have big : ∀ u v : Int, u < v → T * u + 1 ≤ T * v := by
    intro u v h
    have : T * (u + 1) ≤ T * v := Int.mul_le_mul_of_nonneg_left (by omega) (by omega)
    rw [Int.mul_add] at this
    omega
  have qle : ∀ u v : Int, T * u ≤ T * v → T * u / S ≤ T * v / S := fun u v h => Int.ediv_le_ediv hS h
  refine ⟨fun h => ?_, fun h => ?_, fun h => ?_⟩
  · have b := big y x h
    have q := qle y x (by omega)
    by_cases hq : T * y / S = T * x / S
    · rw [hq] at m2 ⊢
      cases ti <;> cases tk <;> simp at * <;> omega
    · cases ti <;> cases tk <;> simp at * <;> omega
  · have b := big x y h
    have q := qle x y (by omega)
    by_cases hq : T * y / S = T * x / S
    · rw [hq] at m2 ⊢
      cases ti <;> cases tk <;> simp at * <;> omega
    · cases ti <;> cases tk <;> simp at * <;> omega
  · subst h
    cases ti <;> cases tk <;> simp at * <;> omega

end Go.Proofs.YtdkabldhkgidjaaDoor
