/-
  AverageEnds: plain numbers.
-/
import Derived.Test.YtbcmaaoddnaoiaaPays
namespace Go.Proofs.Ytbcmaaoddnaoiaa
set_option linter.unusedVariables false
set_option linter.unusedSimpArgs false

/-- All is lost: each bears what they had. -/
theorem parts_full (zs : List Int) (hz : ∀ x ∈ zs, 0 ≤ x) (i : Nat) (hi : i < zs.length) : (partsOf (sumL zs) zs).getD i 0 = zs[i] := by
  have h0 := sumL_nonneg zs hz
  by_cases hS : sumL zs = 0
  · rw [hS, parts_zero zs hz]
    have h1 := mem_le_sum zs hz _ (List.getElem_mem hi)
    have h2 := hz _ (List.getElem_mem hi)
    simp [hi]
    omega
  · have e1 : sumL zs * zs[i] / sumL zs = zs[i] := Int.mul_ediv_cancel_left _ hS
    have e2 : sumL zs * zs[i] % sumL zs = 0 := Int.mul_emod_right _ _
    rcases parts_near (sumL zs) zs (by omega) i hi with h | ⟨h, h2⟩
    · rw [h, e1]
    · exact absurd e2 h2
/-- Who has nothing bears nothing. -/
theorem parts_none (T : Int) (zs : List Int) (hT : T ≤ sumL zs) (hT0 : 0 ≤ T) (hz : ∀ x ∈ zs, 0 ≤ x) (i : Nat) (hi : i < zs.length) (h0 : zs[i] = 0) : (partsOf T zs).getD i 0 = 0 := by
  have hs := sumL_nonneg zs hz
  by_cases hS : sumL zs = 0
  · obtain rfl : T = 0 := by omega
    rw [parts_zero zs hz]
    simp [hi]
  · rcases parts_near T zs (by omega) i hi with h | ⟨h, h2⟩
    · rw [h, h0]; simp
    · rw [h0] at h2; simp at h2
theorem pf_none (G : List Int) (hG : ∀ i, 0 ≤ G.getD i 0) (k m : Nat) (due : Int) : pf G k m due = (G, []) := by
  induction m generalizing k with
  | zero => rfl
  | succ m ih => rw [pf_skip _ _ _ _ (hG k), ih]
/-- Nobody owes: no debts. -/
theorem payS_none (names : List ByteArray) (G : List Int) (hG : ∀ i, 0 ≤ G.getD i 0) (spent : Int) (k : Nat) : payS names G spent k = (G, []) := by
  induction k with
  | zero => simp [payS, pf_none G hG, tell]
  | succ k ih => simp [payS, ih, pf_none G hG, tell]

theorem sumL_rep (n : Nat) : sumL (List.replicate n 0) = 0 := by
  induction n with
  | zero => rfl
  | succ n ih => simp [List.replicate_succ, sumL, ih]
theorem given_none {L : List (ByteArray × Int)} (h : mayB L = true) : givenB L (List.replicate L.length 0) = true := by
  unfold givenB
  rw [h]
  simp only [List.length_replicate, decide_true, Bool.and_self, Bool.true_and, decide_eq_true_eq]
  intro i hi
  have hv : i < (valsI L).length := by rw [valsI_length]; exact hi
  have e : (valsI L).getD i 0 = (valsI L)[i] := by rw [List.getD_eq_getElem?_getD, List.getElem?_eq_getElem hv]; rfl
  have := mayB_amt h _ (List.getElem_mem hv)
  rw [e]
  simp [hi]
  omega
theorem given_all {L : List (ByteArray × Int)} (h : mayB L = true) : givenB L (valsI L) = true := by
  unfold givenB
  rw [h]
  simp only [valsI_length, decide_true, Bool.and_self, Bool.true_and, decide_eq_true_eq]
  intro i hi
  have hv : i < (valsI L).length := by rw [valsI_length]; exact hi
  have e : (valsI L).getD i 0 = (valsI L)[i] := by rw [List.getD_eq_getElem?_getD, List.getElem?_eq_getElem hv]; rfl
  have := mayB_amt h _ (List.getElem_mem hv)
  rw [e]
  omega

theorem whole_refused {L : List (ByteArray × Int)} (gs : List Int) (s : Int) (h : mayB L = false) : wholeE L gs s = 1 := by
  have : givenB L gs = false := by unfold givenB; rw [h]; simp
  unfold wholeE
  rw [if_pos (.inl this)]
theorem mayB_len {L : List (ByteArray × Int)} (h : mayB L = true) : 1 ≤ L.length ∧ L.length ≤ 4096 := by
  unfold mayB at h
  simp only [Bool.and_eq_true, decide_eq_true_eq] at h
  exact h.2

theorem errS_plain {zs : List Int} (hz : ∀ x ∈ zs, 0 ≤ x ∧ x ≤ 1099511627776) (h1 : 1 ≤ zs.length) (h2 : zs.length ≤ 4096) (T : Int) (hT : 0 ≤ T) (hp : 0 < T → ∃ x ∈ zs, 0 < x) : errS T zs = if 1099511627776 < T then 3 else 0 := by
  have b1 : (zs.any fun x => decide (x < 0)) = false := by
    simp only [List.any_eq_false, decide_eq_true_eq]
    intro x hx
    have := (hz x hx).1
    omega
  have b2 : (zs.any fun x => decide (1099511627776 < x)) = false := by
    simp only [List.any_eq_false, decide_eq_true_eq]
    intro x hx
    have := (hz x hx).2
    omega
  unfold errS errV
  rw [b1, b2, if_neg (by rintro (h | h | h) <;> first | omega | cases h)]
  by_cases h : 1099511627776 < T
  · rw [if_pos (.inl h), if_pos h]
  · rw [if_neg (by rintro (h3 | h3 | h3) <;> first | omega | cases h3), if_neg h, if_neg]
    rintro ⟨h3, h4⟩
    obtain ⟨x, hx, hx0⟩ := hp h3
    simp only [List.any_eq_false, decide_eq_true_eq] at h4
    exact h4 x hx hx0
theorem whole_none {L : List (ByteArray × Int)} (h : mayB L = true) : wholeE L (List.replicate L.length 0) 0 = 0 := by
  obtain ⟨l1, l2⟩ := mayB_len h
  have hs := sumL_nonneg (valsI L) fun x hx => (mayB_amt h x hx).1
  unfold wholeE
  rw [if_neg (by rw [given_none h]; decide), sumL_rep]
  unfold adjE
  rw [if_neg (by rw [h]; simp), if_neg (by omega), errS_plain (mayB_amt h) (by rw [valsI_length]; exact l1) (by rw [valsI_length]; exact l2) _ (by omega) (by omega)]
  rfl
theorem whole_all {L : List (ByteArray × Int)} (h : mayB L = true) : wholeE L (valsI L) 0 = if 1099511627776 < sumL (valsI L) then 3 else 0 := by
  obtain ⟨l1, l2⟩ := mayB_len h
  have hs := sumL_nonneg (valsI L) fun x hx => (mayB_amt h x hx).1
  unfold wholeE
  rw [if_neg (by rw [given_all h]; decide)]
  unfold adjE
  rw [Int.add_zero, if_neg (by rw [h]; simp; omega), if_neg (by omega)]
  exact errS_plain (mayB_amt h) (by rw [valsI_length]; exact l1) (by rw [valsI_length]; exact l2) _ hs fun h0 => by
    have h0' : 0 < sumL (valsI L) := h0
    by_cases hx : ∃ x ∈ valsI L, 0 < x
    · exact hx
    · exfalso
      have : ∀ l : List Int, (∀ x ∈ l, x ≤ 0) → sumL l ≤ 0 := by
        intro l
        induction l with
        | nil => intro _; simp [sumL]
        | cons y r ih =>
          intro hl
          have a1 := hl y (by simp)
          have a2 := ih fun x hx => hl x (by simp [hx])
          simp only [sumL]
          omega
      have := this (valsI L) fun x hx2 => by
        rcases Int.lt_or_le 0 x with h3 | h3
        · exact absurd ⟨x, hx2, h3⟩ hx
        · exact h3
      omega

end Go.Proofs.Ytbcmaaoddnaoiaa
