/-
  Plain numbers for the document's interest: reduced pair by pair.
-/
import Derived.Test.YtagdibogjlmgmaaNum
namespace Go.Proofs.Ytagdibogjlmgmaa
set_option linter.unusedVariables false

theorem G_nonneg (a b : Int) : 0 ≤ G a b := by unfold G; omega
theorem G_div (a b : Int) (hb : 1 ≤ b) : G (a / G a b) (b / G a b) = 1 := by
  have h := G_pos a b (by omega)
  unfold G at *
  have := Int.gcd_ediv_gcd_ediv_gcd (i := a) (j := b) (by omega)
  omega
/-- Divided by what divides it a number stays coprime. -/
theorem G_left (a b g : Int) (hg : g ∣ a) (h1 : 1 ≤ g) (h : G a b = 1) : G (a / g) b = 1 := by
  obtain ⟨x, rfl⟩ := hg
  rw [Int.mul_ediv_cancel_left _ (by omega)]
  unfold G at *
  have h1 : Int.gcd (g * x) b = 1 := by omega
  have : Int.gcd x b ∣ 1 := by
    rw [← h1]
    exact Nat.dvd_gcd (Nat.dvd_trans (Int.gcd_dvd_natAbs_left x b) (by rw [Int.natAbs_mul]; exact Nat.dvd_mul_left _ _)) (Int.gcd_dvd_natAbs_right x b)
  have := Nat.dvd_one.1 this
  omega
theorem G_symm (a b : Int) : G a b = G b a := by unfold G; rw [Int.gcd_comm]
theorem G_right (a b g : Int) (hg : g ∣ b) (h1 : 1 ≤ g) (h : G a b = 1) : G a (b / g) = 1 := by
  rw [G_symm] at h ⊢
  exact G_left b a g hg h1 h

/-- The pairs up to (i, k) are coprime; what was divided out is one factor of both products. -/
structure Inv (s n t d b : Int) (i k : Nat) (n0 n1 n2 d0 d1 : Int) : Prop where
  a0 : 0 ≤ n0 ∧ n0 ≤ s
  a1 : 0 ≤ n1 ∧ n1 ≤ n
  a2 : 0 ≤ n2 ∧ n2 ≤ t
  b0 : 1 ≤ d0 ∧ d0 ≤ d
  b1 : 1 ≤ d1 ∧ d1 ≤ b
  z0 : n0 = 0 → s = 0
  z1 : n1 = 0 → n = 0
  z2 : n2 = 0 → t = 0
  c : ∃ c, 1 ≤ c ∧ s * n * t = c * (n0 * n1 * n2) ∧ d * b = c * (d0 * d1)
  p00 : 1 ≤ 2 * i + k → G n0 d0 = 1
  p01 : 2 ≤ 2 * i + k → G n0 d1 = 1
  p10 : 3 ≤ 2 * i + k → G n1 d0 = 1
  p11 : 4 ≤ 2 * i + k → G n1 d1 = 1
  p20 : 5 ≤ 2 * i + k → G n2 d0 = 1
  p21 : 6 ≤ 2 * i + k → G n2 d1 = 1

theorem Inv.next {s n t d b n0 n1 n2 d0 d1 : Int} {i : Nat} (h : Inv s n t d b i 2 n0 n1 n2 d0 d1) : Inv s n t d b (i + 1) 0 n0 n1 n2 d0 d1 :=
  ⟨h.a0, h.a1, h.a2, h.b0, h.b1, h.z0, h.z1, h.z2, h.c, fun e => h.p00 (by omega), fun e => h.p01 (by omega), fun e => h.p10 (by omega), fun e => h.p11 (by omega), fun e => h.p20 (by omega), fun e => h.p21 (by omega)⟩

theorem dv (x g : Int) (hg : g ∣ x) (h : 1 ≤ g) : x / g * g = x := by
  obtain ⟨y, rfl⟩ := hg
  rw [Int.mul_ediv_cancel_left _ (by omega), Int.mul_comm]
theorem dz (x g : Int) (hg : g ∣ x) (h : 1 ≤ g) (e : x / g = 0) : x = 0 := by
  have := dv x g hg h
  rw [e] at this
  omega
theorem dpos (x g : Int) (hg : g ∣ x) (h : 1 ≤ g) (hx : 1 ≤ x) : 1 ≤ x / g := by
  have h0 := Int.ediv_nonneg (show 0 ≤ x by omega) (show 0 ≤ g by omega)
  rcases Int.lt_or_le (x / g) 1 with h1 | h1
  · have := dz x g hg h (by omega); omega
  · exact h1

theorem Inv.s00 {s n t d b n0 n1 n2 d0 d1 g : Int} (hg : G n0 d0 = g) (h : Inv s n t d b 0 0 n0 n1 n2 d0 d1) : Inv s n t d b 0 1 (n0 / g) n1 n2 (d0 / g) d1 := by
  have gp : 1 ≤ g := by rw [← hg]; exact G_pos _ _ (by have := h.b0.1; omega)
  have e1 : g ∣ n0 := by rw [← hg]; exact Int.gcd_dvd_left ..
  have e2 : g ∣ d0 := by rw [← hg]; exact Int.gcd_dvd_right ..
  have hG : G (n0 / g) (d0 / g) = 1 := by rw [← hg]; exact G_div _ _ h.b0.1
  have hc : ∃ c, 1 ≤ c ∧ s * n * t = c * ((n0 / g) * n1 * n2) ∧ d * b = c * ((d0 / g) * d1) := by
    obtain ⟨c, c1, c2, c3⟩ := h.c
    have v1 := dv n0 g e1 gp
    have v2 := dv d0 g e2 gp
    refine ⟨c * g, ?_, ?_, ?_⟩
    · have := Int.mul_pos (show 0 < c by omega) (show 0 < g by omega); omega
    · rw [c2]; generalize n0 / g = x at *; grind
    · rw [c3]; generalize d0 / g = x at *; grind
  exact ⟨⟨by have := div_bd n0 g h.a0.1 gp; omega, by have := div_bd n0 g h.a0.1 gp; have := h.a0.2; omega⟩, h.a1, h.a2, ⟨dpos d0 g e2 gp h.b0.1, by have := div_bd d0 g (by have := h.b0.1; omega) gp; have := h.b0.2; omega⟩, h.b1, fun e => h.z0 (dz n0 g e1 gp e), h.z1, h.z2, hc, fun _ => hG, fun e => absurd e (by omega), fun e => absurd e (by omega), fun e => absurd e (by omega), fun e => absurd e (by omega), fun e => absurd e (by omega)⟩
theorem Inv.s01 {s n t d b n0 n1 n2 d0 d1 g : Int} (hg : G n0 d1 = g) (h : Inv s n t d b 0 1 n0 n1 n2 d0 d1) : Inv s n t d b 0 2 (n0 / g) n1 n2 d0 (d1 / g) := by
  have gp : 1 ≤ g := by rw [← hg]; exact G_pos _ _ (by have := h.b1.1; omega)
  have e1 : g ∣ n0 := by rw [← hg]; exact Int.gcd_dvd_left ..
  have e2 : g ∣ d1 := by rw [← hg]; exact Int.gcd_dvd_right ..
  have hG : G (n0 / g) (d1 / g) = 1 := by rw [← hg]; exact G_div _ _ h.b1.1
  have hc : ∃ c, 1 ≤ c ∧ s * n * t = c * ((n0 / g) * n1 * n2) ∧ d * b = c * (d0 * (d1 / g)) := by
    obtain ⟨c, c1, c2, c3⟩ := h.c
    have v1 := dv n0 g e1 gp
    have v2 := dv d1 g e2 gp
    refine ⟨c * g, ?_, ?_, ?_⟩
    · have := Int.mul_pos (show 0 < c by omega) (show 0 < g by omega); omega
    · rw [c2]; generalize n0 / g = x at *; grind
    · rw [c3]; generalize d1 / g = x at *; grind
  exact ⟨⟨by have := div_bd n0 g h.a0.1 gp; omega, by have := div_bd n0 g h.a0.1 gp; have := h.a0.2; omega⟩, h.a1, h.a2, h.b0, ⟨dpos d1 g e2 gp h.b1.1, by have := div_bd d1 g (by have := h.b1.1; omega) gp; have := h.b1.2; omega⟩, fun e => h.z0 (dz n0 g e1 gp e), h.z1, h.z2, hc, fun e => G_left n0 d0 g e1 gp (h.p00 (by omega)), fun _ => hG, fun e => absurd e (by omega), fun e => absurd e (by omega), fun e => absurd e (by omega), fun e => absurd e (by omega)⟩
theorem Inv.s10 {s n t d b n0 n1 n2 d0 d1 g : Int} (hg : G n1 d0 = g) (h : Inv s n t d b 1 0 n0 n1 n2 d0 d1) : Inv s n t d b 1 1 n0 (n1 / g) n2 (d0 / g) d1 := by
  have gp : 1 ≤ g := by rw [← hg]; exact G_pos _ _ (by have := h.b0.1; omega)
  have e1 : g ∣ n1 := by rw [← hg]; exact Int.gcd_dvd_left ..
  have e2 : g ∣ d0 := by rw [← hg]; exact Int.gcd_dvd_right ..
  have hG : G (n1 / g) (d0 / g) = 1 := by rw [← hg]; exact G_div _ _ h.b0.1
  have hc : ∃ c, 1 ≤ c ∧ s * n * t = c * (n0 * (n1 / g) * n2) ∧ d * b = c * ((d0 / g) * d1) := by
    obtain ⟨c, c1, c2, c3⟩ := h.c
    have v1 := dv n1 g e1 gp
    have v2 := dv d0 g e2 gp
    refine ⟨c * g, ?_, ?_, ?_⟩
    · have := Int.mul_pos (show 0 < c by omega) (show 0 < g by omega); omega
    · rw [c2]; generalize n1 / g = x at *; grind
    · rw [c3]; generalize d0 / g = x at *; grind
  exact ⟨h.a0, ⟨by have := div_bd n1 g h.a1.1 gp; omega, by have := div_bd n1 g h.a1.1 gp; have := h.a1.2; omega⟩, h.a2, ⟨dpos d0 g e2 gp h.b0.1, by have := div_bd d0 g (by have := h.b0.1; omega) gp; have := h.b0.2; omega⟩, h.b1, h.z0, fun e => h.z1 (dz n1 g e1 gp e), h.z2, hc, fun e => G_right n0 d0 g e2 gp (h.p00 (by omega)), fun e => h.p01 (by omega), fun _ => hG, fun e => absurd e (by omega), fun e => absurd e (by omega), fun e => absurd e (by omega)⟩
theorem Inv.s11 {s n t d b n0 n1 n2 d0 d1 g : Int} (hg : G n1 d1 = g) (h : Inv s n t d b 1 1 n0 n1 n2 d0 d1) : Inv s n t d b 1 2 n0 (n1 / g) n2 d0 (d1 / g) := by
  have gp : 1 ≤ g := by rw [← hg]; exact G_pos _ _ (by have := h.b1.1; omega)
  have e1 : g ∣ n1 := by rw [← hg]; exact Int.gcd_dvd_left ..
  have e2 : g ∣ d1 := by rw [← hg]; exact Int.gcd_dvd_right ..
  have hG : G (n1 / g) (d1 / g) = 1 := by rw [← hg]; exact G_div _ _ h.b1.1
  have hc : ∃ c, 1 ≤ c ∧ s * n * t = c * (n0 * (n1 / g) * n2) ∧ d * b = c * (d0 * (d1 / g)) := by
    obtain ⟨c, c1, c2, c3⟩ := h.c
    have v1 := dv n1 g e1 gp
    have v2 := dv d1 g e2 gp
    refine ⟨c * g, ?_, ?_, ?_⟩
    · have := Int.mul_pos (show 0 < c by omega) (show 0 < g by omega); omega
    · rw [c2]; generalize n1 / g = x at *; grind
    · rw [c3]; generalize d1 / g = x at *; grind
  exact ⟨h.a0, ⟨by have := div_bd n1 g h.a1.1 gp; omega, by have := div_bd n1 g h.a1.1 gp; have := h.a1.2; omega⟩, h.a2, h.b0, ⟨dpos d1 g e2 gp h.b1.1, by have := div_bd d1 g (by have := h.b1.1; omega) gp; have := h.b1.2; omega⟩, h.z0, fun e => h.z1 (dz n1 g e1 gp e), h.z2, hc, fun e => h.p00 (by omega), fun e => G_right n0 d1 g e2 gp (h.p01 (by omega)), fun e => G_left n1 d0 g e1 gp (h.p10 (by omega)), fun _ => hG, fun e => absurd e (by omega), fun e => absurd e (by omega)⟩
theorem Inv.s20 {s n t d b n0 n1 n2 d0 d1 g : Int} (hg : G n2 d0 = g) (h : Inv s n t d b 2 0 n0 n1 n2 d0 d1) : Inv s n t d b 2 1 n0 n1 (n2 / g) (d0 / g) d1 := by
  have gp : 1 ≤ g := by rw [← hg]; exact G_pos _ _ (by have := h.b0.1; omega)
  have e1 : g ∣ n2 := by rw [← hg]; exact Int.gcd_dvd_left ..
  have e2 : g ∣ d0 := by rw [← hg]; exact Int.gcd_dvd_right ..
  have hG : G (n2 / g) (d0 / g) = 1 := by rw [← hg]; exact G_div _ _ h.b0.1
  have hc : ∃ c, 1 ≤ c ∧ s * n * t = c * (n0 * n1 * (n2 / g)) ∧ d * b = c * ((d0 / g) * d1) := by
    obtain ⟨c, c1, c2, c3⟩ := h.c
    have v1 := dv n2 g e1 gp
    have v2 := dv d0 g e2 gp
    refine ⟨c * g, ?_, ?_, ?_⟩
    · have := Int.mul_pos (show 0 < c by omega) (show 0 < g by omega); omega
    · rw [c2]; generalize n2 / g = x at *; grind
    · rw [c3]; generalize d0 / g = x at *; grind
  exact ⟨h.a0, h.a1, ⟨by have := div_bd n2 g h.a2.1 gp; omega, by have := div_bd n2 g h.a2.1 gp; have := h.a2.2; omega⟩, ⟨dpos d0 g e2 gp h.b0.1, by have := div_bd d0 g (by have := h.b0.1; omega) gp; have := h.b0.2; omega⟩, h.b1, h.z0, h.z1, fun e => h.z2 (dz n2 g e1 gp e), hc, fun e => G_right n0 d0 g e2 gp (h.p00 (by omega)), fun e => h.p01 (by omega), fun e => G_right n1 d0 g e2 gp (h.p10 (by omega)), fun e => h.p11 (by omega), fun _ => hG, fun e => absurd e (by omega)⟩
theorem Inv.s21 {s n t d b n0 n1 n2 d0 d1 g : Int} (hg : G n2 d1 = g) (h : Inv s n t d b 2 1 n0 n1 n2 d0 d1) : Inv s n t d b 2 2 n0 n1 (n2 / g) d0 (d1 / g) := by
  have gp : 1 ≤ g := by rw [← hg]; exact G_pos _ _ (by have := h.b1.1; omega)
  have e1 : g ∣ n2 := by rw [← hg]; exact Int.gcd_dvd_left ..
  have e2 : g ∣ d1 := by rw [← hg]; exact Int.gcd_dvd_right ..
  have hG : G (n2 / g) (d1 / g) = 1 := by rw [← hg]; exact G_div _ _ h.b1.1
  have hc : ∃ c, 1 ≤ c ∧ s * n * t = c * (n0 * n1 * (n2 / g)) ∧ d * b = c * (d0 * (d1 / g)) := by
    obtain ⟨c, c1, c2, c3⟩ := h.c
    have v1 := dv n2 g e1 gp
    have v2 := dv d1 g e2 gp
    refine ⟨c * g, ?_, ?_, ?_⟩
    · have := Int.mul_pos (show 0 < c by omega) (show 0 < g by omega); omega
    · rw [c2]; generalize n2 / g = x at *; grind
    · rw [c3]; generalize d1 / g = x at *; grind
  exact ⟨h.a0, h.a1, ⟨by have := div_bd n2 g h.a2.1 gp; omega, by have := div_bd n2 g h.a2.1 gp; have := h.a2.2; omega⟩, h.b0, ⟨dpos d1 g e2 gp h.b1.1, by have := div_bd d1 g (by have := h.b1.1; omega) gp; have := h.b1.2; omega⟩, h.z0, h.z1, fun e => h.z2 (dz n2 g e1 gp e), hc, fun e => h.p00 (by omega), fun e => G_right n0 d1 g e2 gp (h.p01 (by omega)), fun e => h.p10 (by omega), fun e => G_right n1 d1 g e2 gp (h.p11 (by omega)), fun e => G_left n2 d0 g e1 gp (h.p20 (by omega)), fun _ => hG⟩

theorem Inv.start {s n t d b : Int} (h : validB s n d t b = true) : Inv s n t d b 0 0 s n t d b := by
  unfold validB at h
  simp only [decide_eq_true_eq] at h
  exact ⟨by omega, by omega, by omega, by omega, by omega, id, id, id, ⟨1, by omega, by omega, by omega⟩, fun e => absurd e (by omega), fun e => absurd e (by omega), fun e => absurd e (by omega), fun e => absurd e (by omega), fun e => absurd e (by omega), fun e => absurd e (by omega)⟩

theorem G_mul (a b c : Int) (h1 : G a c = 1) (h2 : G b c = 1) : G (a * b) c = 1 := by
  unfold G at *
  have h1' : Nat.Coprime a.natAbs c.natAbs := by show Nat.gcd _ _ = 1; have : Int.gcd a c = Nat.gcd a.natAbs c.natAbs := rfl; omega
  have h2' : Nat.Coprime b.natAbs c.natAbs := by show Nat.gcd _ _ = 1; have : Int.gcd b c = Nat.gcd b.natAbs c.natAbs := rfl; omega
  have h3 : Nat.gcd (a.natAbs * b.natAbs) c.natAbs = 1 := h1'.mul_left h2'
  have h4 : Int.gcd (a * b) c = Nat.gcd (a * b).natAbs c.natAbs := rfl
  rw [h4, Int.natAbs_mul, h3]
  rfl

/-- At the end all pairs are coprime: the products are the interest, reduced. -/
theorem Inv.done {s n t d b n0 n1 n2 d0 d1 : Int} (h : Inv s n t d b 3 0 n0 n1 n2 d0 d1) : intN s n d t b = n0 * n1 * n2 ∧ intD s n d t b = d0 * d1 := by
  obtain ⟨c, c1, c2, c3⟩ := h.c
  have q (x : Int) (h0 : G x d0 = 1) (h1 : G x d1 = 1) : G x (d0 * d1) = 1 := by
    rw [G_symm]
    rw [G_symm] at h0 h1
    exact G_mul d0 d1 x h0 h1
  have k0 := q n0 (h.p00 (by omega)) (h.p01 (by omega))
  have k1 := q n1 (h.p10 (by omega)) (h.p11 (by omega))
  have k2 := q n2 (h.p20 (by omega)) (h.p21 (by omega))
  have k := G_mul _ _ _ (G_mul _ _ _ k0 k1) k2
  have hg : G (s * n * t) (d * b) = c := by
    rw [c2, c3]
    generalize n0 * n1 * n2 = P at *
    generalize d0 * d1 = Q at *
    unfold G at *
    rw [Int.gcd_mul_left]
    have : Int.gcd P Q = 1 := by omega
    rw [this]
    omega
  unfold intN intD
  rw [hg, c2, c3, Int.mul_ediv_cancel_left _ (by omega), Int.mul_ediv_cancel_left _ (by omega)]
  exact ⟨rfl, rfl⟩

end Go.Proofs.Ytagdibogjlmgmaa
