/-
  Plain numbers: fractions in lowest terms, rounding. No program.
-/
namespace Go.Proofs.YtdkabldhkgidjaaDoor
set_option linter.unusedVariables false
set_option linter.unusedSimpArgs false

/-- What remains of N over D when a common factor c leaves coprime numbers. -/
theorem canon {N D c P Q : Nat} (hN : N = c * P) (hD : D = c * Q) (hc : 0 < c) (h : Nat.Coprime P Q) : N / Nat.gcd N D = P ∧ D / Nat.gcd N D = Q := by
  subst hN hD
  have hg : Nat.gcd (c * P) (c * Q) = c := by rw [Nat.gcd_mul_left, h.gcd_eq_one, Nat.mul_one]
  rw [hg]
  exact ⟨Nat.mul_div_cancel_left _ hc, Nat.mul_div_cancel_left _ hc⟩

theorem gcd_pos_r (a b : Nat) (h : 0 < b) : 0 < Nat.gcd a b := Nat.gcd_pos_of_pos_right _ h
theorem div_gcd_pos (a b : Nat) (h : 0 < b) : 0 < b / Nat.gcd a b := Nat.div_pos (Nat.gcd_le_right _ h) (gcd_pos_r a b h)

/-- One factor after the other is reduced against what is left of the divisor. -/
theorem steps3 (s n t D : Nat) (hD : 0 < D) :
    s / Nat.gcd s D * (n / Nat.gcd n (D / Nat.gcd s D)) * (t / Nat.gcd t (D / Nat.gcd s D / Nat.gcd n (D / Nat.gcd s D))) = s * n * t / Nat.gcd (s * n * t) D ∧
    D / Nat.gcd s D / Nat.gcd n (D / Nat.gcd s D) / Nat.gcd t (D / Nat.gcd s D / Nat.gcd n (D / Nat.gcd s D)) = D / Nat.gcd (s * n * t) D := by
  have p1 := gcd_pos_r s D hD
  have q1 := div_gcd_pos s D hD
  generalize h1 : Nat.gcd s D = g1 at *
  have d1 : g1 ∣ D := h1 ▸ Nat.gcd_dvd_right _ _
  have e1 : g1 ∣ s := h1 ▸ Nat.gcd_dvd_left _ _
  have c1 : Nat.Coprime (s / g1) (D / g1) := h1 ▸ Nat.coprime_div_gcd_div_gcd (h1 ▸ p1)
  generalize hD1 : D / g1 = D1 at *
  have p2 := gcd_pos_r n D1 q1
  have q2 := div_gcd_pos n D1 q1
  generalize h2 : Nat.gcd n D1 = g2 at *
  have d2 : g2 ∣ D1 := h2 ▸ Nat.gcd_dvd_right _ _
  have e2 : g2 ∣ n := h2 ▸ Nat.gcd_dvd_left _ _
  have c2 : Nat.Coprime (n / g2) (D1 / g2) := h2 ▸ Nat.coprime_div_gcd_div_gcd (h2 ▸ p2)
  generalize hD2 : D1 / g2 = D2 at *
  have p3 := gcd_pos_r t D2 q2
  generalize h3 : Nat.gcd t D2 = g3 at *
  have d3 : g3 ∣ D2 := h3 ▸ Nat.gcd_dvd_right _ _
  have e3 : g3 ∣ t := h3 ▸ Nat.gcd_dvd_left _ _
  have c3 : Nat.Coprime (t / g3) (D2 / g3) := h3 ▸ Nat.coprime_div_gcd_div_gcd (h3 ▸ p3)
  generalize hD3 : D2 / g3 = D3 at *
  have x3 : D2 = g3 * D3 := by rw [← hD3, Nat.mul_div_cancel' d3]
  have x2 : D1 = g2 * D2 := by rw [← hD2, Nat.mul_div_cancel' d2]
  have x1 : D = g1 * D1 := by rw [← hD1, Nat.mul_div_cancel' d1]
  have y1 : s = g1 * (s / g1) := (Nat.mul_div_cancel' e1).symm
  have y2 : n = g2 * (n / g2) := (Nat.mul_div_cancel' e2).symm
  have y3 : t = g3 * (t / g3) := (Nat.mul_div_cancel' e3).symm
  generalize s / g1 = a at *
  generalize n / g2 = b at *
  generalize t / g3 = c at *
  have k2 : Nat.Coprime b D3 := c2.coprime_dvd_right ⟨g3, by rw [x3, Nat.mul_comm]⟩
  have k1 : Nat.Coprime a D3 := c1.coprime_dvd_right ⟨g2 * g3, by rw [x2, x3]; ac_rfl⟩
  have hk : Nat.Coprime (a * b * c) D3 := (k1.mul_left k2).mul_left c3
  have hN : s * n * t = (g1 * g2 * g3) * (a * b * c) := by rw [y1, y2, y3]; ac_rfl
  have hD : D = (g1 * g2 * g3) * D3 := by rw [x1, x2, x3]; ac_rfl
  obtain ⟨u, v⟩ := canon hN hD (Nat.mul_pos (Nat.mul_pos p1 p2) p3) hk
  exact ⟨u.symm, v.symm⟩

/-- The greatest common divisor, as an Int. -/
def G (a b : Int) : Int := Int.gcd a b
theorem G_nat (a b : Nat) : G a b = (Nat.gcd a b : Nat) := rfl
theorem G_pos (a b : Int) (h : 0 < b) : 1 ≤ G a b := by
  unfold G
  have := Int.gcd_pos_of_ne_zero_right a (show b ≠ 0 by omega)
  omega
theorem G_le (a b : Int) (h : 0 < b) : G a b ≤ b := by
  obtain ⟨n, rfl⟩ := Int.eq_ofNat_of_zero_le (show 0 ≤ b by omega)
  unfold G
  have : Int.gcd a n ≤ n := Nat.gcd_le_right _ (by omega)
  omega
theorem divG_pos (a b : Int) (h : 0 < b) : 1 ≤ b / G a b := by
  have h1 := G_pos a b h
  have h2 := G_le a b h
  have := (Int.le_ediv_iff_mul_le (a := 1) (b := b) (c := G a b) (by omega)).2 (by omega)
  exact this
theorem div_bd (a g : Int) (h : 0 ≤ a) (hg : 1 ≤ g) : 0 ≤ a / g ∧ a / g ≤ a := ⟨Int.ediv_nonneg h (by omega), Int.ediv_le_self g h⟩
theorem G_zero (b : Int) (h : 0 ≤ b) : G 0 b = b := by
  unfold G
  simp
  omega

/-- The same over Int. -/
theorem steps3i (s n t D : Int) (hs : 0 ≤ s) (hn : 0 ≤ n) (ht : 0 ≤ t) (hD : 0 < D) :
    s / G s D * (n / G n (D / G s D)) * (t / G t (D / G s D / G n (D / G s D))) = s * n * t / G (s * n * t) D ∧
    D / G s D / G n (D / G s D) / G t (D / G s D / G n (D / G s D)) = D / G (s * n * t) D := by
  obtain ⟨s, rfl⟩ := Int.eq_ofNat_of_zero_le hs
  obtain ⟨n, rfl⟩ := Int.eq_ofNat_of_zero_le hn
  obtain ⟨t, rfl⟩ := Int.eq_ofNat_of_zero_le ht
  obtain ⟨D, rfl⟩ := Int.eq_ofNat_of_zero_le (show 0 ≤ D by omega)
  obtain ⟨h1, h2⟩ := steps3 s n t D (by omega)
  simp only [G_nat, ← Int.natCast_mul, ← Int.natCast_ediv]
  exact ⟨congrArg _ h1, congrArg _ h2⟩

/-- May a sum, a rate, days and a base be? -/
def validB (s n d t base : Int) : Bool := decide (0 ≤ s ∧ s ≤ 1099511627776 ∧ 0 ≤ n ∧ n ≤ 1048576 ∧ 1 ≤ d ∧ d ≤ 1048576 ∧ 0 ≤ t ∧ t ≤ 1048576 ∧ (base = 360 ∨ base = 365))

/-- Interest's numerator and divisor, reduced. -/
def intN (s n d t base : Int) : Int := s * n * t / G (s * n * t) (d * base)
def intD (s n d t base : Int) : Int := d * base / G (s * n * t) (d * base)
/-- Is there an interest? -/
def intB (s n d t base : Int) : Bool := validB s n d t base && decide (intN s n d t base ≤ 9223372036854775807)

theorem valid_D {s n d t base : Int} (h : validB s n d t base = true) : 1 ≤ d * base ∧ d * base ≤ 382730240 := by
  unfold validB at h
  simp only [decide_eq_true_eq] at h
  obtain ⟨_, _, _, _, h1, h2, _, _, h3 | h3⟩ := h <;> subst h3 <;> omega
theorem valid_N {s n d t base : Int} (h : validB s n d t base = true) : 0 ≤ s * n * t := by
  unfold validB at h
  simp only [decide_eq_true_eq] at h
  exact Int.mul_nonneg (Int.mul_nonneg h.1 h.2.2.1) h.2.2.2.2.2.2.1
theorem intD_pos {s n d t base : Int} (h : validB s n d t base = true) : 1 ≤ intD s n d t base ∧ intD s n d t base ≤ 382730240 := by
  have hD := valid_D h
  refine ⟨divG_pos _ _ (by omega), ?_⟩
  have := (div_bd (d * base) (G (s * n * t) (d * base)) (by omega) (G_pos _ _ (by omega))).2
  unfold intD
  omega
theorem intN_nonneg {s n d t base : Int} (h : validB s n d t base = true) : 0 ≤ intN s n d t base := 
  (div_bd _ _ (valid_N h) (G_pos _ _ (by have := valid_D h; omega))).1
/-- The fraction is the product over the divisor. -/
theorem int_eq {s n d t base : Int} (h : validB s n d t base = true) : intN s n d t base * (d * base) = s * n * t * intD s n d t base := by
  unfold intN intD
  have h1 : G (s * n * t) (d * base) ∣ s * n * t := Int.gcd_dvd_left ..
  have h2 : G (s * n * t) (d * base) ∣ d * base := Int.gcd_dvd_right ..
  have hp := G_pos (s * n * t) (d * base) (by have := valid_D h; omega)
  generalize s * n * t = N at *
  generalize d * base = D at *
  generalize G N D = g at *
  obtain ⟨x, rfl⟩ := h1
  obtain ⟨y, rfl⟩ := h2
  rw [Int.mul_ediv_cancel_left _ (by omega), Int.mul_ediv_cancel_left _ (by omega)]
  ac_rfl

/-- Rounded to the nearest. -/
def near (n d : Int) : Int := if n % d * 2 ≥ d then n / d + 1 else n / d
theorem near_bd (n d : Int) (hn : 0 ≤ n) (hd : 1 ≤ d) : 0 ≤ near n d ∧ near n d ≤ n := by
  have h4 := Int.ediv_nonneg hn (show 0 ≤ d by omega)
  have h5 := Int.ediv_le_self d hn
  have h6 := Int.mul_ediv_add_emod n d
  have h7 := Int.emod_nonneg n (show d ≠ 0 by omega)
  have h8 := Int.emod_lt_of_pos n (show 0 < d by omega)
  unfold near
  split
  · refine ⟨by omega, ?_⟩
    by_cases h1 : d = 1
    · subst h1; omega
    · have h9 : 2 * (n / d) ≤ d * (n / d) := Int.mul_le_mul_of_nonneg_right (by omega) h4
      omega
  · exact ⟨h4, h5⟩
/-- The sign of a comparison. -/
def sgn (a b : Int) : Int := if a < b then -1 else if b < a then 1 else 0

theorem int_zero {s n d t base : Int} (h : validB s n d t base = true) (hz : s = 0 ∨ n = 0 ∨ t = 0) : intN s n d t base = 0 ∧ intD s n d t base = 1 := by
  have e : s * n * t = 0 := by rcases hz with h | h | h <;> subst h <;> simp
  have hD := valid_D h
  unfold intN intD
  rw [e, G_zero _ (by omega)]
  exact ⟨by simp, Int.ediv_self (by omega)⟩

def iN (b : Bool) (s n d t base : Int) : Int := if b = true then intN s n d t base else 0
def iD (b : Bool) (s n d t base : Int) : Int := if b = true then intD s n d t base else 0
def rV (b : Bool) (s n d t base : Int) : Int := if b = true then intN s n d t base / intD s n d t base else 0
@[simp] theorem iN_true (s n d t base : Int) : iN true s n d t base = intN s n d t base := rfl
@[simp] theorem iD_true (s n d t base : Int) : iD true s n d t base = intD s n d t base := rfl
@[simp] theorem rV_true (s n d t base : Int) : rV true s n d t base = intN s n d t base / intD s n d t base := rfl
@[simp] theorem iN_false (s n d t base : Int) : iN false s n d t base = 0 := rfl
@[simp] theorem iD_false (s n d t base : Int) : iD false s n d t base = 0 := rfl

end Go.Proofs.YtdkabldhkgidjaaDoor
