/-
  Who pays whom, summed by names: plain numbers. No program.
-/
import Derived.Test.YtbcmaaoddnaoiaaPays
namespace Go.Proofs.Ytbcmaaoddnaoiaa
set_option linter.unusedVariables false
set_option linter.unusedSimpArgs false

/-- How many owe, and how many are to get. -/
def nneg : List Int → Nat
  | [] => 0
  | x :: r => (if x < 0 then 1 else 0) + nneg r
def npos : List Int → Nat
  | [] => 0
  | x :: r => (if 0 < x then 1 else 0) + npos r
theorem nneg_set (G : List Int) (k : Nat) (x : Int) (h : k < G.length) : nneg (G.set k x) + (if G.getD k 0 < 0 then 1 else 0) = nneg G + (if x < 0 then 1 else 0) := by
  induction G generalizing k with
  | nil => simp at h
  | cons y r ih =>
    cases k with
    | zero => simp only [List.set_cons_zero, nneg, List.getD_cons_zero]; omega
    | succ k =>
      have := ih k (by simpa using h)
      simp only [List.set_cons_succ, nneg, List.getD_cons_succ]
      omega
theorem nneg_npos (G : List Int) : nneg G + npos G ≤ G.length := by
  induction G with
  | nil => simp [nneg, npos]
  | cons x r ih =>
    simp only [nneg, npos, List.length_cons]
    by_cases h : x < 0
    · rw [if_pos h, if_neg (by omega)]; omega
    · rw [if_neg h]; split <;> omega
theorem npos_take_succ (G : List Int) (k : Nat) (h : k < G.length) : npos (G.take (k + 1)) = npos (G.take k) + (if 0 < G.getD k 0 then 1 else 0) := by
  induction G generalizing k with
  | nil => simp at h
  | cons x r ih =>
    cases k with
    | zero => simp [npos]
    | succ k =>
      have := ih k (by simpa using h)
      simp only [List.take_succ_cons, npos, List.getD_cons_succ]
      omega
theorem pf_few (m : Nat) : ∀ (G : List Int) (k : Nat) (due : Int), k + m ≤ G.length → (pf G k m due).2.length + nneg (pf G k m due).1 ≤ nneg G + (if 0 < due then 1 else 0) := by
  induction m with
  | zero => intro G k due h; simp [pf]
  | succ m ih =>
    intro G k due h
    by_cases hd : due ≤ 0
    · rw [pf_zero _ _ _ _ hd]; simp
    · by_cases hx : G.getD k 0 < 0
      · unfold pf
        rw [if_neg hd, if_pos hx]
        have hs := nneg_set G k (G.getD k 0 + min due (-G.getD k 0)) (by omega)
        have hi := ih (G.set k (G.getD k 0 + min due (-G.getD k 0))) (k + 1) (due - min due (-G.getD k 0)) (by rw [List.length_set]; omega)
        simp only [List.length_cons]
        rw [if_pos hx] at hs
        rw [if_pos (by omega)]
        by_cases hfull : due ≤ -G.getD k 0
        · rw [if_neg (by omega)] at hi
          split at hs <;> omega
        · rw [if_pos (by omega)] at hi
          rw [if_neg (by omega)] at hs
          omega
      · rw [pf_skip _ _ _ _ (by omega)]
        exact ih G (k + 1) due (by omega)
theorem payS_few (names : List ByteArray) (G : List Int) (spent : Int) (hs : 0 ≤ spent) (hb : negs G = spent + poss G) (k : Nat) (hk : k ≤ G.length) :
    (payS names G spent k).2.length + nneg (payS names G spent k).1 ≤ nneg G + 1 + npos (G.take k) := by
  induction k with
  | zero =>
    have := pf_few G.length G 0 spent (by omega)
    simp only [payS, tell, List.length_map, List.take_zero, npos]
    split at this <;> omega
  | succ k ih =>
    have i1 := ih (by omega)
    obtain ⟨h1, h2, h3, h4⟩ := payS_facts names G spent hs hb k (by omega)
    have hm := h2 k
    have ht := npos_take_succ G k (by omega)
    have f := pf_few G.length (payS names G spent k).1 0 (max ((payS names G spent k).1.getD k 0) 0) (by omega)
    simp only [payS, tell, List.length_append, List.length_map]
    split at f <;> split at ht <;> omega

/-- What place i pays, and what is paid together. -/
def amtAt : List (Nat × Int) → Nat → Int
  | [], _ => 0
  | p :: r, i => (if p.1 = i then p.2 else 0) + amtAt r i
def amtSum : List (Nat × Int) → Int
  | [] => 0
  | p :: r => p.2 + amtSum r
theorem pf_amt (m : Nat) : ∀ (G : List Int) (k : Nat) (due : Int), k + m ≤ G.length → ∀ i, (pf G k m due).1.getD i 0 = G.getD i 0 + amtAt (pf G k m due).2 i := by
  induction m with
  | zero => intro G k due h i; simp [pf, amtAt]
  | succ m ih =>
    intro G k due h i
    by_cases hd : due ≤ 0
    · rw [pf_zero _ _ _ _ hd]; simp [amtAt]
    · by_cases hx : G.getD k 0 < 0
      · unfold pf
        rw [if_neg hd, if_pos hx]
        have hi := ih (G.set k (G.getD k 0 + min due (-G.getD k 0))) (k + 1) (due - min due (-G.getD k 0)) (by rw [List.length_set]; omega) i
        simp only [amtAt]
        rw [hi]
        by_cases e : k = i
        · subst e; rw [getD_set_same _ _ _ (by omega), if_pos rfl]; omega
        · rw [getD_set_other _ _ _ _ e, if_neg e]; omega
      · rw [pf_skip _ _ _ _ (by omega)]
        exact ih G (k + 1) due (by omega) i
theorem pf_total (m : Nat) : ∀ (G : List Int) (k : Nat) (due : Int), k + m ≤ G.length → negs (pf G k m due).1 + amtSum (pf G k m due).2 = negs G := by
  induction m with
  | zero => intro G k due h; simp [pf, amtSum]
  | succ m ih =>
    intro G k due h
    by_cases hd : due ≤ 0
    · rw [pf_zero _ _ _ _ hd]; simp [amtSum]
    · by_cases hx : G.getD k 0 < 0
      · unfold pf
        rw [if_neg hd, if_pos hx]
        have hs := negs_set G k (G.getD k 0 + min due (-G.getD k 0)) (by omega)
        have hi := ih (G.set k (G.getD k 0 + min due (-G.getD k 0))) (k + 1) (due - min due (-G.getD k 0)) (by rw [List.length_set]; omega)
        simp only [amtSum]
        omega
      · rw [pf_skip _ _ _ _ (by omega)]
        exact ih G (k + 1) due (by omega)
theorem pf_each (m : Nat) : ∀ (G : List Int) (k : Nat) (due : Int), k + m ≤ G.length → ∀ p ∈ (pf G k m due).2, 1 ≤ p.2 ∧ p.1 < G.length ∧ G.getD p.1 0 < 0 := by
  induction m with
  | zero => intro G k due h p hp; simp [pf] at hp
  | succ m ih =>
    intro G k due h p hp
    by_cases hd : due ≤ 0
    · rw [pf_zero _ _ _ _ hd] at hp; simp at hp
    · by_cases hx : G.getD k 0 < 0
      · unfold pf at hp
        rw [if_neg hd, if_pos hx] at hp
        rcases List.mem_cons.1 hp with rfl | hp
        · exact ⟨by show 1 ≤ min due (-G.getD k 0); omega, by show k < G.length; omega, hx⟩
        · have hi := ih (G.set k (G.getD k 0 + min due (-G.getD k 0))) (k + 1) (due - min due (-G.getD k 0)) (by rw [List.length_set]; omega) p hp
          rw [List.length_set] at hi
          refine ⟨hi.1, hi.2.1, ?_⟩
          by_cases e : k = p.1
          · rw [← e]; exact hx
          · have := hi.2.2
            rwa [getD_set_other _ _ _ _ e] at this
      · rw [pf_skip _ _ _ _ (by omega)] at hp
        exact ih G (k + 1) due (by omega) p hp

/-- What somebody pays, and gets, of debts; all of them. -/
def fromS : List (ByteArray × ByteArray × Int) → ByteArray → Int
  | [], _ => 0
  | d :: r, s => (if d.1 = s then d.2.2 else 0) + fromS r s
def toS : List (ByteArray × ByteArray × Int) → ByteArray → Int
  | [], _ => 0
  | d :: r, s => (if d.2.1 = s then d.2.2 else 0) + toS r s
def totS : List (ByteArray × ByteArray × Int) → Int
  | [] => 0
  | d :: r => d.2.2 + totS r
theorem fromS_append (a b : List (ByteArray × ByteArray × Int)) (s : ByteArray) : fromS (a ++ b) s = fromS a s + fromS b s := by
  induction a with
  | nil => simp [fromS]
  | cons d r ih => simp only [List.cons_append, fromS, ih]; omega
theorem toS_append (a b : List (ByteArray × ByteArray × Int)) (s : ByteArray) : toS (a ++ b) s = toS a s + toS b s := by
  induction a with
  | nil => simp [toS]
  | cons d r ih => simp only [List.cons_append, toS, ih]; omega
theorem totS_append (a b : List (ByteArray × ByteArray × Int)) : totS (a ++ b) = totS a + totS b := by
  induction a with
  | nil => simp [totS]
  | cons d r ih => simp only [List.cons_append, totS, ih]; omega
theorem sums_bd (D : List (ByteArray × ByteArray × Int)) (h : ∀ d ∈ D, 1 ≤ d.2.2) (s : ByteArray) : 0 ≤ fromS D s ∧ fromS D s ≤ totS D ∧ 0 ≤ toS D s ∧ toS D s ≤ totS D := by
  induction D with
  | nil => simp [fromS, toS, totS]
  | cons d r ih =>
    have h1 := h d (by simp)
    have h2 := ih fun x hx => h x (by simp [hx])
    simp only [fromS, toS, totS]
    split <;> split <;> omega
theorem totS_take (D : List (ByteArray × ByteArray × Int)) (h : ∀ d ∈ D, 1 ≤ d.2.2) (k : Nat) : totS (D.take k) ≤ totS D := by
  have e : totS D = totS (D.take k) + totS (D.drop k) := by rw [← totS_append, List.take_append_drop]
  have h2 := (sums_bd (D.drop k) (fun d hd => h d (List.mem_of_mem_drop hd)) ⟨#[]⟩)
  omega
theorem tell_to (names : List ByteArray) (whom : ByteArray) (o : List (Nat × Int)) (s : ByteArray) : toS (tell names whom o) s = if whom = s then amtSum o else 0 := by
  induction o with
  | nil => simp [tell, toS, amtSum]
  | cons p r ih =>
    unfold tell at ih ⊢
    simp only [List.map_cons, toS, amtSum, ih]
    split <;> omega
theorem tell_tot (names : List ByteArray) (whom : ByteArray) (o : List (Nat × Int)) : totS (tell names whom o) = amtSum o := by
  induction o with
  | nil => simp [tell, totS, amtSum]
  | cons p r ih =>
    unfold tell at ih ⊢
    simp only [List.map_cons, totS, amtSum, ih]
/-- Names that differ, none of them empty. -/
structure NamesOk (names : List ByteArray) : Prop where
  inj : ∀ i j, i < names.length → j < names.length → names.getD i ⟨#[]⟩ = names.getD j ⟨#[]⟩ → i = j
  full : ∀ i, i < names.length → names.getD i ⟨#[]⟩ ≠ ⟨#[]⟩
theorem tell_from {names : List ByteArray} (hN : NamesOk names) (whom : ByteArray) (o : List (Nat × Int)) (ho : ∀ p ∈ o, p.1 < names.length) (i : Nat) (hi : i < names.length) : fromS (tell names whom o) (names.getD i ⟨#[]⟩) = amtAt o i := by
  induction o with
  | nil => simp [tell, fromS, amtAt]
  | cons p r ih =>
    have h1 := ih fun x hx => ho x (by simp [hx])
    have h2 := ho p (by simp)
    unfold tell at h1 ⊢
    simp only [List.map_cons, fromS, amtAt, h1]
    congr 1
    by_cases e : p.1 = i
    · rw [e, if_pos rfl, if_pos rfl]
    · rw [if_neg e, if_neg fun h => e (hN.inj _ _ h2 hi h)]
theorem tell_none {names : List ByteArray} (hN : NamesOk names) (whom : ByteArray) (o : List (Nat × Int)) (ho : ∀ p ∈ o, p.1 < names.length) : fromS (tell names whom o) ⟨#[]⟩ = 0 := by
  induction o with
  | nil => simp [tell, fromS]
  | cons p r ih =>
    have h1 := ih fun x hx => ho x (by simp [hx])
    have h2 := hN.full _ (ho p (by simp))
    unfold tell at h1 ⊢
    simp only [List.map_cons, fromS, h1]
    rw [if_neg h2]
    rfl

/-- What a run of payments has come to behind k interests. -/
structure PaySums (names : List ByteArray) (G : List Int) (spent : Int) (k : Nat) : Prop where
  fr : ∀ i, i < G.length → (payS names G spent k).1.getD i 0 = G.getD i 0 + fromS (payS names G spent k).2 (names.getD i ⟨#[]⟩)
  fr0 : fromS (payS names G spent k).2 ⟨#[]⟩ = 0
  to0 : toS (payS names G spent k).2 ⟨#[]⟩ = spent
  toI : ∀ i, i < G.length → toS (payS names G spent k).2 (names.getD i ⟨#[]⟩) = if i < k then max (G.getD i 0) 0 else 0
  tot : totS (payS names G spent k).2 = spent + poss G - poss (G.drop k)
  each : ∀ d ∈ (payS names G spent k).2, 1 ≤ d.2.2 ∧ ∃ i, i < G.length ∧ d.1 = names.getD i ⟨#[]⟩ ∧ G.getD i 0 < 0 ∧ (d.2.1 = ⟨#[]⟩ ∨ ∃ j, j < G.length ∧ d.2.1 = names.getD j ⟨#[]⟩ ∧ 0 < G.getD j 0)
theorem pay_sums {names : List ByteArray} {G : List Int} {spent : Int} (hN : NamesOk names) (hl : names.length = G.length) (hs : 0 ≤ spent) (hb : negs G = spent + poss G) (k : Nat) (hk : k ≤ G.length) : PaySums names G spent k := by
  induction k with
  | zero =>
    have f1 := pf_amt G.length G 0 spent (by omega)
    have f2 := pf_total G.length G 0 spent (by omega)
    have f3 := pf_each G.length G 0 spent (by omega)
    have f4 := pf_negs G.length G 0 spent (by omega) hs (by have := poss_nonneg G; omega) (fun j hj => by omega)
    have f5 : ∀ p ∈ (pf G 0 G.length spent).2, p.1 < names.length := fun p hp => by have := (f3 p hp).2.1; omega
    refine ⟨fun i hi => ?_, ?_, ?_, fun i hi => ?_, ?_, fun d hd => ?_⟩
    · simp only [payS]
      rw [tell_from hN _ _ f5 i (by omega)]
      exact f1 i
    · simp only [payS]
      exact tell_none hN _ _ f5
    · simp only [payS]
      rw [tell_to, if_pos rfl]
      omega
    · simp only [payS]
      rw [tell_to, if_neg fun h => hN.full i (by omega) h.symm, if_neg (by omega)]
    · simp only [payS, List.drop_zero]
      rw [tell_tot]
      omega
    · simp only [payS, tell, List.mem_map] at hd
      obtain ⟨p, hp, rfl⟩ := hd
      obtain ⟨q1, q2, q3⟩ := f3 p hp
      exact ⟨q1, p.1, q2, rfl, q3, .inl rfl⟩
  | succ k ih =>
    have I := ih (by omega)
    obtain ⟨h1, h2, h3, h4⟩ := payS_facts names G spent hs hb k (by omega)
    have hts := poss_take_succ G k (by omega)
    have hpd := poss_nonneg (G.drop (k + 1))
    have hm := h2 k
    have f1 := pf_amt G.length (payS names G spent k).1 0 (max ((payS names G spent k).1.getD k 0) 0) (by omega)
    have f2 := pf_total G.length (payS names G spent k).1 0 (max ((payS names G spent k).1.getD k 0) 0) (by omega)
    have f3 := pf_each G.length (payS names G spent k).1 0 (max ((payS names G spent k).1.getD k 0) 0) (by omega)
    have f4 := pf_negs G.length (payS names G spent k).1 0 (max ((payS names G spent k).1.getD k 0) 0) (by omega) (by omega) (by omega) (fun j hj => by omega)
    have f5 : ∀ p ∈ (pf (payS names G spent k).1 0 G.length (max ((payS names G spent k).1.getD k 0) 0)).2, p.1 < names.length := fun p hp => by have := (f3 p hp).2.1; omega
    have hfull := hN.full k (by omega)
    refine ⟨fun i hi => ?_, ?_, ?_, fun i hi => ?_, ?_, fun d hd => ?_⟩
    · simp only [payS]
      rw [fromS_append, tell_from hN _ _ f5 i (by omega), f1 i, I.fr i hi]
      omega
    · simp only [payS]
      rw [fromS_append, tell_none hN _ _ f5, I.fr0]
      rfl
    · simp only [payS]
      rw [toS_append, tell_to, if_neg hfull, I.to0]
      omega
    · simp only [payS]
      rw [toS_append, tell_to, I.toI i hi]
      by_cases e : k = i
      · subst e
        rw [if_neg (by omega), if_pos rfl, if_pos (by omega)]
        omega
      · rw [if_neg (c := names.getD k _ = _) fun h => e (hN.inj _ _ (by omega) (by omega) h)]
        by_cases h9 : i < k
        · rw [if_pos h9, if_pos (by omega)]; omega
        · rw [if_neg h9, if_neg (by omega)]; rfl
    · simp only [payS]
      rw [totS_append, tell_tot, I.tot]
      omega
    · simp only [payS, List.mem_append] at hd
      rcases hd with hd | hd
      · exact I.each d hd
      · simp only [tell, List.mem_map] at hd
        obtain ⟨p, hp, rfl⟩ := hd
        obtain ⟨q1, q2, q3⟩ := f3 p hp
        have q4 := h2 p.1
        have hdue : 0 < (payS names G spent k).1.getD k 0 := by
          rcases Int.lt_or_le 0 ((payS names G spent k).1.getD k 0) with h | h
          · exact h
          · rw [pf_zero _ _ _ _ (by omega)] at hp
            simp at hp
        have q5 := h4 p.1
        exact ⟨q1, p.1, by omega, rfl, by omega, .inr ⟨k, by omega, rfl, by omega⟩⟩

/-- When all is paid. -/
structure Settled (names : List ByteArray) (G : List Int) (spent : Int) (D : List (ByteArray × ByteArray × Int)) : Prop where
  net : ∀ i, i < G.length → toS D (names.getD i ⟨#[]⟩) - fromS D (names.getD i ⟨#[]⟩) = G.getD i 0
  own : toS D ⟨#[]⟩ - fromS D ⟨#[]⟩ = spent
  len : D.length ≤ G.length + 1
  tot : totS D = spent + poss G
  pos : ∀ d ∈ D, 1 ≤ d.2.2
  ne : ∀ d ∈ D, d.1 ≠ d.2.1
  nm : ∀ d ∈ D, (∃ i, i < G.length ∧ d.1 = names.getD i ⟨#[]⟩) ∧ (d.2.1 = ⟨#[]⟩ ∨ ∃ i, i < G.length ∧ d.2.1 = names.getD i ⟨#[]⟩)
  away : ∀ d ∈ D, ∀ i, i < G.length → (0 < G.getD i 0 → d.1 ≠ names.getD i ⟨#[]⟩) ∧ (G.getD i 0 < 0 → d.2.1 ≠ names.getD i ⟨#[]⟩)
theorem settled {names : List ByteArray} {G : List Int} {spent : Int} (hN : NamesOk names) (hl : names.length = G.length) (hs : 0 ≤ spent) (hb : negs G = spent + poss G) : Settled names G spent (payS names G spent G.length).2 := by
  have P := pay_sums hN hl hs hb G.length (Nat.le_refl _)
  obtain ⟨h1, h2, h3, h4⟩ := payS_facts names G spent hs hb G.length (Nat.le_refl _)
  have hf := payS_few names G spent hs hb G.length (Nat.le_refl _)
  have hd : poss (G.drop G.length) = 0 := by rw [List.drop_of_length_le (Nat.le_refl _)]; rfl
  rw [List.take_of_length_le (Nat.le_refl _)] at hf
  have hn := nneg_npos G
  have ht := P.tot
  rw [hd] at h3 ht
  refine ⟨fun i hi => ?_, ?_, by omega, by omega, fun d hd => (P.each d hd).1, fun d hd => ?_, fun d hd => ?_, fun d hd i hi => ?_⟩
  · have a1 := P.fr i hi
    have a2 := P.toI i hi
    rw [if_pos hi] at a2
    have a3 := h2 i
    have a4 := neg_le_negs (payS names G spent G.length).1 i (by omega)
    omega
  · rw [P.fr0, P.to0]; omega
  · obtain ⟨_, i, hi, e1, g1, e2⟩ := P.each d hd
    rw [e1]
    rcases e2 with e2 | ⟨j, hj, e2, g2⟩
    · rw [e2]; exact hN.full i (by omega)
    · rw [e2]
      intro h
      obtain rfl := hN.inj _ _ (by omega) (by omega) h
      omega
  · obtain ⟨_, i', hi', e1, g1, e2⟩ := P.each d hd
    exact ⟨⟨i', hi', e1⟩, e2.imp id fun ⟨j, hj, e, _⟩ => ⟨j, hj, e⟩⟩
  · obtain ⟨_, i', hi', e1, g1, e2⟩ := P.each d hd
    refine ⟨fun h0 h => ?_, fun h0 h => ?_⟩
    · rw [e1] at h
      obtain rfl := hN.inj _ _ (by omega) (by omega) h
      omega
    · rcases e2 with e2 | ⟨j, hj, e2, g2⟩
      · rw [e2] at h; exact hN.full i (by omega) h.symm
      · rw [e2] at h
        obtain rfl := hN.inj _ _ (by omega) (by omega) h
        omega

/-- The names of interests that may be. -/
theorem mayGo_names : ∀ (L : List (ByteArray × Int)) (S : List (List UInt8)), mayGo S L = true → (∀ p ∈ L, nameB p.1 = true ∧ p.1.data.toList ∉ S) ∧ (L.map fun p => p.1.data.toList).Nodup
  | [], _, _ => ⟨(fun p hp => by cases hp), List.nodup_nil⟩
  | p :: r, S, h => by
    unfold mayGo at h
    simp only [Bool.and_eq_true, Bool.not_eq_true', decide_eq_false_iff_not] at h
    obtain ⟨⟨⟨h1, h2⟩, h3⟩, h4⟩ := h
    obtain ⟨i1, i2⟩ := mayGo_names r _ h4
    refine ⟨fun q hq => ?_, ?_⟩
    · rcases List.mem_cons.1 hq with rfl | hq
      · exact ⟨h1, h2⟩
      · exact ⟨(i1 q hq).1, fun h => (i1 q hq).2 (by simp [h])⟩
    · rw [List.map_cons, List.nodup_cons]
      refine ⟨fun h => ?_, i2⟩
      obtain ⟨q, hq, e⟩ := List.mem_map.1 h
      exact (i1 q hq).2 (by simp [e])
theorem may_names {L : List (ByteArray × Int)} (h : mayB L = true) : NamesOk (namesB L) := by
  unfold mayB at h
  rw [Bool.and_eq_true] at h
  obtain ⟨h1, h2⟩ := mayGo_names L [] h.1
  have hg : ∀ i (hi : i < L.length), (namesB L).getD i ⟨#[]⟩ = L[i].1 := fun i hi => by simp [namesB, hi]
  have hl : (namesB L).length = L.length := by simp [namesB]
  refine ⟨fun i j hi hj e => ?_, fun i hi e => ?_⟩
  · rw [hl] at hi hj
    rw [hg i hi, hg j hj] at e
    have h3 : (L.map fun p => p.1.data.toList)[i]'(by simpa using hi) = (L.map fun p => p.1.data.toList)[j]'(by simpa using hj) := by simp [e]
    have hp := List.pairwise_iff_getElem.1 h2
    rcases Nat.lt_trichotomy i j with h | h | h
    · exact absurd h3 (hp i j (by simpa using hi) (by simpa using hj) h)
    · exact h
    · exact absurd h3.symm (hp j i (by simpa using hj) (by simpa using hi) h)
  · rw [hl] at hi
    rw [hg i hi] at e
    have := (nameB_size (h1 _ (List.getElem_mem hi)).1).1
    rw [e] at this
    simp [ByteArray.size] at this

end Go.Proofs.Ytbcmaaoddnaoiaa
