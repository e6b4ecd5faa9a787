/-
  Who pays whom: plain numbers. No program.
-/
import Derived.Test.YtbcmaaoddnaoiaaSplitNum
import Derived.Test.YtbcmaaoddnaoiaaSplitLaw
namespace Go.Proofs.Ytbcmaaoddnaoiaa
set_option linter.unusedVariables false
set_option linter.unusedSimpArgs false

/-- From place k on, m places: those who owe pay what is due. -/
def pf : List Int → Nat → Nat → Int → List Int × List (Nat × Int)
  | G, _, 0, _ => (G, [])
  | G, k, m + 1, due =>
    if due ≤ 0 then (G, [])
    else if G.getD k 0 < 0 then
      ((pf (G.set k (G.getD k 0 + min due (-G.getD k 0))) (k + 1) m (due - min due (-G.getD k 0))).1,
        (k, min due (-G.getD k 0)) :: (pf (G.set k (G.getD k 0 + min due (-G.getD k 0))) (k + 1) m (due - min due (-G.getD k 0))).2)
    else pf G (k + 1) m due
theorem pf_zero (G : List Int) (k m : Nat) (due : Int) (h : due ≤ 0) : pf G k m due = (G, []) := by
  cases m with
  | zero => rfl
  | succ m => unfold pf; rw [if_pos h]
theorem pf_skip (G : List Int) (k m : Nat) (due : Int) (h : 0 ≤ G.getD k 0) : pf G k (m + 1) due = pf G (k + 1) m due := by
  by_cases hd : due ≤ 0
  · rw [pf_zero _ _ _ _ hd, pf_zero _ _ _ _ hd]
  · conv => lhs; unfold pf
    rw [if_neg hd, if_neg (by omega)]
theorem getD_set_same (G : List Int) (k : Nat) (x : Int) (h : k < G.length) : (G.set k x).getD k 0 = x := by simp [h]
theorem getD_set_other (G : List Int) (k i : Nat) (x : Int) (h : k ≠ i) : (G.set k x).getD i 0 = G.getD i 0 := by
  simp [List.getElem?_set, h]
/-- One payment, and on from the same place. -/
theorem pf_pay (G : List Int) (k m : Nat) (due : Int) (hd : 0 < due) (h : G.getD k 0 < 0) (hk : k < G.length) :
    pf G k (m + 1) due = ((pf (G.set k (G.getD k 0 + min due (-G.getD k 0))) k (m + 1) (due - min due (-G.getD k 0))).1,
      (k, min due (-G.getD k 0)) :: (pf (G.set k (G.getD k 0 + min due (-G.getD k 0))) k (m + 1) (due - min due (-G.getD k 0))).2) := by
  have e : pf (G.set k (G.getD k 0 + min due (-G.getD k 0))) k (m + 1) (due - min due (-G.getD k 0)) = pf (G.set k (G.getD k 0 + min due (-G.getD k 0))) (k + 1) m (due - min due (-G.getD k 0)) := by
    by_cases h2 : due ≤ -G.getD k 0
    · have : due - min due (-G.getD k 0) ≤ 0 := by omega
      rw [pf_zero _ _ _ _ this, pf_zero _ _ _ _ this]
    · apply pf_skip
      rw [getD_set_same _ _ _ hk]
      omega
  rw [e]
  conv => lhs; unfold pf
  rw [if_neg (by omega), if_pos h]

/-- What is owed together. -/
def negs : List Int → Int
  | [] => 0
  | x :: r => max (-x) 0 + negs r
/-- What is to be got together. -/
def poss : List Int → Int
  | [] => 0
  | x :: r => max x 0 + poss r
theorem negs_nonneg (G : List Int) : 0 ≤ negs G := by
  induction G with
  | nil => simp [negs]
  | cons x r ih => simp only [negs]; omega
theorem negs_set (G : List Int) (k : Nat) (x : Int) (h : k < G.length) : negs (G.set k x) = negs G - max (-G.getD k 0) 0 + max (-x) 0 := by
  induction G generalizing k with
  | nil => simp at h
  | cons y r ih =>
    cases k with
    | zero => simp [negs]; omega
    | succ k =>
      simp only [List.set_cons_succ, negs, List.getD_cons_succ]
      rw [ih k (by simpa using h)]
      omega
theorem negs_pos (G : List Int) (h : 0 < negs G) : ∃ j, j < G.length ∧ G.getD j 0 < 0 := by
  induction G with
  | nil => simp [negs] at h
  | cons x r ih =>
    by_cases hx : x < 0
    · exact ⟨0, by simp, by simpa using hx⟩
    · simp only [negs] at h
      obtain ⟨j, hj, h2⟩ := ih (by omega)
      exact ⟨j + 1, by simpa using hj, by simpa using h2⟩
theorem neg_le_negs (G : List Int) (k : Nat) (h : k < G.length) : -G.getD k 0 ≤ negs G := by
  induction G generalizing k with
  | nil => simp at h
  | cons y r ih =>
    have := negs_nonneg r
    cases k with
    | zero => simp [negs]; omega
    | succ k =>
      have := ih k (by simpa using h)
      simp only [negs, List.getD_cons_succ]
      omega
theorem sum_negs (G : List Int) : sumL G = poss G - negs G := by
  induction G with
  | nil => rfl
  | cons x r ih => simp only [sumL, poss, negs, ih]; omega

/-- What a run of payments leaves: who owed owes so much less; who is to get is as before. -/
theorem pf_facts (m : Nat) : ∀ (G : List Int) (k : Nat) (due : Int), k + m = G.length → (pf G k m due).1.length = G.length ∧ (∀ i, max ((pf G k m due).1.getD i 0) 0 = max (G.getD i 0) 0) ∧ (∀ i, i < k → (pf G k m due).1.getD i 0 = G.getD i 0) ∧ (∀ i, G.getD i 0 ≤ (pf G k m due).1.getD i 0) := by
  induction m with
  | zero => intro G k due h; exact ⟨rfl, fun i => rfl, fun i _ => rfl, fun i => Int.le_refl _⟩
  | succ m ih =>
    intro G k due h
    unfold pf
    by_cases hd : due ≤ 0
    · rw [if_pos hd]; exact ⟨rfl, fun i => rfl, fun i _ => rfl, fun i => Int.le_refl _⟩
    · rw [if_neg hd]
      by_cases hx : G.getD k 0 < 0
      · rw [if_pos hx]
        have hk : k < G.length := by omega
        obtain ⟨h1, h2, h3, h4⟩ := ih (G.set k (G.getD k 0 + min due (-G.getD k 0))) (k + 1) (due - min due (-G.getD k 0)) (by rw [List.length_set]; omega)
        refine ⟨by rw [h1, List.length_set], fun i => ?_, fun i hi => ?_, fun i => ?_⟩
        · rw [h2 i]
          by_cases e : k = i
          · subst e; rw [getD_set_same _ _ _ hk]; omega
          · rw [getD_set_other _ _ _ _ e]
        · rw [h3 i (by omega), getD_set_other _ _ _ _ (by omega)]
        · have := h4 i
          show G.getD i 0 ≤ (pf _ _ _ _).1.getD i 0
          by_cases e : k = i
          · subst e; rw [getD_set_same _ _ _ hk] at this; omega
          · rwa [getD_set_other _ _ _ _ e] at this
      · rw [if_neg hx]
        obtain ⟨h1, h2, h3, h4⟩ := ih G (k + 1) due (by omega)
        exact ⟨h1, h2, fun i hi => h3 i (by omega), h4⟩
theorem pf_negs (m : Nat) : ∀ (G : List Int) (k : Nat) (due : Int), k + m = G.length → 0 ≤ due → due ≤ negs G → (∀ j, j < k → 0 ≤ G.getD j 0) → negs (pf G k m due).1 = negs G - due := by
  induction m with
  | zero =>
    intro G k due h h0 hle hp
    have : ¬ 0 < due := by
      intro hd
      obtain ⟨j, hj, hx⟩ := negs_pos G (by omega)
      have := hp j (by omega)
      omega
    simp only [pf]
    omega
  | succ m ih =>
    intro G k due h h0 hle hp
    by_cases hd : due ≤ 0
    · rw [pf_zero _ _ _ _ hd]; show negs G = _; omega
    · have hk : k < G.length := by omega
      by_cases hx : G.getD k 0 < 0
      · unfold pf
        rw [if_neg hd, if_pos hx]
        have hs := negs_set G k (G.getD k 0 + min due (-G.getD k 0)) hk
        by_cases hfull : due ≤ -G.getD k 0
        · have e0 : due - min due (-G.getD k 0) ≤ 0 := by omega
          rw [pf_zero _ _ _ _ e0]
          show negs _ = _
          rw [hs]; omega
        · rw [ih _ (k + 1) _ (by rw [List.length_set]; omega) (by omega) (by rw [hs]; omega) (fun j hj => by
            by_cases e : k = j
            · subst e; rw [getD_set_same _ _ _ hk]; omega
            · rw [getD_set_other _ _ _ _ e]; exact hp j (by omega)), hs]
          omega
      · rw [pf_skip _ _ _ _ (by omega)]
        exact ih G (k + 1) due (by omega) h0 hle (fun j hj => by
          by_cases e : j = k
          · subst e; omega
          · exact hp j (by omega))
/-- Those ahead owe nothing: they can be passed. -/
theorem pf_from (G : List Int) (due : Int) (k : Nat) : ∀ m, (∀ j, j < k → 0 ≤ G.getD j 0) → pf G 0 (k + m) due = pf G k m due := by
  induction k with
  | zero => intro m _; rw [Nat.zero_add]
  | succ k ih =>
    intro m h
    rw [show k + 1 + m = k + (m + 1) by omega, ih (m + 1) (fun j hj => h j (by omega)), pf_skip _ _ _ _ (h k (by omega))]

theorem pf_count (m : Nat) : ∀ (G : List Int) (k : Nat) (due : Int), (pf G k m due).2.length ≤ m := by
  induction m with
  | zero => intro G k due; simp [pf]
  | succ m ih =>
    intro G k due
    unfold pf
    split
    · simp
    · split
      · have := ih (G.set k (G.getD k 0 + min due (-G.getD k 0))) (k + 1) (due - min due (-G.getD k 0))
        simp only [List.length_cons]
        omega
      · have := ih G (k + 1) due
        omega
/-- Debts: who pays, whom, how much. -/
def tell (names : List ByteArray) (whom : ByteArray) (o : List (Nat × Int)) : List (ByteArray × ByteArray × Int) := o.map fun p => (names.getD p.1 ⟨#[]⟩, whom, p.2)
/-- What is got, and the debts, behind k interests. -/
def payS (names : List ByteArray) (G : List Int) (spent : Int) : Nat → List Int × List (ByteArray × ByteArray × Int)
  | 0 => ((pf G 0 G.length spent).1, tell names ⟨#[]⟩ (pf G 0 G.length spent).2)
  | k + 1 =>
    ((pf (payS names G spent k).1 0 G.length (max ((payS names G spent k).1.getD k 0) 0)).1,
      (payS names G spent k).2 ++ tell names (names.getD k ⟨#[]⟩) (pf (payS names G spent k).1 0 G.length (max ((payS names G spent k).1.getD k 0) 0)).2)

theorem poss_take_succ (G : List Int) (k : Nat) (h : k < G.length) : poss (G.drop k) = max (G.getD k 0) 0 + poss (G.drop (k + 1)) := by
  rw [List.drop_eq_getElem_cons h]
  simp [poss, h]
theorem payS_facts (names : List ByteArray) (G : List Int) (spent : Int) (hs : 0 ≤ spent) (hb : negs G = spent + poss G) (k : Nat) (hk : k ≤ G.length) :
    (payS names G spent k).1.length = G.length ∧ (∀ i, max ((payS names G spent k).1.getD i 0) 0 = max (G.getD i 0) 0) ∧ negs (payS names G spent k).1 = poss (G.drop k) ∧ (∀ i, G.getD i 0 ≤ (payS names G spent k).1.getD i 0) := by
  have hp : ∀ l : List Int, 0 ≤ poss l := by
    intro l
    induction l with
    | nil => simp [poss]
    | cons x r ih => simp only [poss]; omega
  induction k with
  | zero =>
    have f := pf_facts G.length G 0 spent (by omega)
    refine ⟨f.1, f.2.1, ?_, f.2.2.2⟩
    have := pf_negs G.length G 0 spent (by omega) hs (by have := hp G; omega) (fun j hj => by omega)
    simp only [payS, List.drop_zero]
    omega
  | succ k ih =>
    obtain ⟨h1, h2, h3, h4⟩ := ih (by omega)
    have hts := poss_take_succ G k (by omega)
    have hpd := hp (G.drop (k + 1))
    have hm := h2 k
    have f := pf_facts G.length (payS names G spent k).1 0 (max ((payS names G spent k).1.getD k 0) 0) (by omega)
    have hn := pf_negs G.length (payS names G spent k).1 0 (max ((payS names G spent k).1.getD k 0) 0) (by omega) (by omega) (by omega) (fun j hj => by omega)
    refine ⟨by simp only [payS]; rw [f.1, h1], fun i => by simp only [payS]; rw [f.2.1 i, h2 i], ?_, fun i => ?_⟩
    · simp only [payS]
      rw [hn]
      omega
    · have := f.2.2.2 i
      have := h4 i
      simp only [payS]
      omega

end Go.Proofs.Ytbcmaaoddnaoiaa
