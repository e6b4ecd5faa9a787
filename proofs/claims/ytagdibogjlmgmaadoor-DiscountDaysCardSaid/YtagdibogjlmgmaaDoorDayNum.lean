/-
  Plain numbers: the year, the month and the day of the month of a day. No program.
-/
namespace Go.Proofs.YtagdibogjlmgmaaDoor
set_option linter.unusedVariables false

/-- Has a year 366 days? -/
def lpB (y : Int) : Bool := decide (y % 4 = 0 ∧ y % 100 ≠ 0 ∨ y % 400 = 0)
def ylen (y : Int) : Int := if lpB y = true then 366 else 365
/-- The days of a month, from 0 on. -/
def mlen (lp : Bool) (k : Nat) : Int := match k with
  | 0 => 31 | 1 => (if lp = true then 29 else 28) | 2 => 31 | 3 => 30 | 4 => 31 | 5 => 30 | 6 => 31 | 7 => 31 | 8 => 30 | 9 => 31 | 10 => 30 | 11 => 31 | _ => 0
/-- The days from a month on to the year's end. -/
def rest (lp : Bool) (k : Nat) : Int := match k with
  | 0 => (if lp = true then 366 else 365) | 1 => (if lp = true then 335 else 334) | 2 => 306 | 3 => 275 | 4 => 245 | 5 => 214 | 6 => 184 | 7 => 153 | 8 => 122 | 9 => 92 | 10 => 61 | 11 => 31 | _ => 0

theorem ylen_bd (y : Int) : 365 ≤ ylen y ∧ ylen y ≤ 366 := by unfold ylen; split <;> omega
theorem rest_succ' : ∀ (lp : Bool) (k : Fin 12), rest lp k.val = mlen lp k.val + rest lp (k.val + 1) ∧ 28 ≤ mlen lp k.val ∧ mlen lp k.val ≤ 31 := by decide
theorem rest_succ (lp : Bool) (k : Nat) (h : k < 12) : rest lp k = mlen lp k + rest lp (k + 1) ∧ 28 ≤ mlen lp k ∧ mlen lp k ≤ 31 := rest_succ' lp ⟨k, h⟩
theorem mlen_ne (lp : Bool) (k : Nat) (h : k ≠ 1) : mlen lp k = mlen false k := by
  unfold mlen
  split <;> first | rfl | exact absurd rfl h
theorem rest_end (lp : Bool) : rest lp 12 = 0 := rfl
theorem rest_year (y : Int) : rest (lpB y) 0 = ylen y := rfl

def yf : Nat → Int → Int → Int × Int
  | 0, y, d => (y, d)
  | f + 1, y, d => if ylen y ≤ d then yf f (y + 1) (d - ylen y) else (y, d)
def mf (lp : Bool) : Nat → Nat → Int → Nat × Int
  | 0, k, d => (k, d)
  | f + 1, k, d => if mlen lp k ≤ d then mf lp f (k + 1) (d - mlen lp k) else (k, d)

theorem yf_out (f : Nat) (y d : Int) (h : d < ylen y) : yf f y d = (y, d) := by
  cases f with
  | zero => rfl
  | succ f => simp [yf]; omega
theorem yf_on (f : Nat) (y d : Int) (h : ylen y ≤ d) : yf (f + 1) y d = yf f (y + 1) (d - ylen y) := by simp [yf, h]
theorem mf_out (lp : Bool) (f k : Nat) (d : Int) (h : d < mlen lp k) : mf lp f k d = (k, d) := by
  cases f with
  | zero => rfl
  | succ f => simp [mf]; omega
theorem mf_on (lp : Bool) (f k : Nat) (d : Int) (h : mlen lp k ≤ d) : mf lp (f + 1) k d = mf lp f (k + 1) (d - mlen lp k) := by simp [mf, h]

theorem yf_bd : ∀ (f : Nat) (y d : Int), 0 ≤ d → d < 365 * f → y ≤ (yf f y d).1 ∧ (yf f y d).1 ≤ y + f ∧ 0 ≤ (yf f y d).2 ∧ (yf f y d).2 < ylen (yf f y d).1
  | 0, y, d, h0, h1 => by omega
  | f + 1, y, d, h0, h1 => by
    have hb := ylen_bd y
    by_cases h : ylen y ≤ d
    · rw [yf_on f y d h]
      have ih := yf_bd f (y + 1) (d - ylen y) (by omega) (by omega)
      omega
    · rw [yf_out (f + 1) y d (by omega)]
      exact ⟨by simp, by simp; omega, h0, by simp; omega⟩
theorem mf_bd (lp : Bool) : ∀ (f k : Nat) (d : Int), k + f = 12 → 0 ≤ d → d < rest lp k → (mf lp f k d).1 < 12 ∧ 0 ≤ (mf lp f k d).2 ∧ (mf lp f k d).2 < mlen lp (mf lp f k d).1
  | 0, k, d, hk, h0, h1 => by
    obtain rfl : k = 12 := by omega
    rw [rest_end] at h1
    omega
  | f + 1, k, d, hk, h0, h1 => by
    have hr := rest_succ lp k (by omega)
    by_cases h : mlen lp k ≤ d
    · rw [mf_on lp f k d h]
      exact mf_bd lp f (k + 1) (d - mlen lp k) (by omega) (by omega) (by omega)
    · rw [mf_out lp (f + 1) k d (by omega)]
      exact ⟨by simp; omega, h0, by simp; omega⟩

/-- The year, the rest of the days, the month from 0 on, the day of the month from 0 on. -/
def dY (n : Int) : Int := (yf 2874 2000 n).1
def dR (n : Int) : Int := (yf 2874 2000 n).2
def dK (n : Int) : Nat := (mf (lpB (dY n)) 12 0 (dR n)).1
def dD (n : Int) : Int := (mf (lpB (dY n)) 12 0 (dR n)).2

theorem day_bd (n : Int) (h0 : 0 ≤ n) (h1 : n ≤ 1048576) : 2000 ≤ dY n ∧ dY n ≤ 4874 ∧ 0 ≤ dR n ∧ dR n < rest (lpB (dY n)) 0 ∧ dK n < 12 ∧ 0 ≤ dD n ∧ dD n < 31 := by
  have hy := yf_bd 2874 2000 n h0 (by omega)
  have hr : dR n < rest (lpB (dY n)) 0 := by rw [rest_year]; exact hy.2.2.2
  have hm := mf_bd (lpB (dY n)) 12 0 (dR n) rfl hy.2.2.1 hr
  have hs := rest_succ (lpB (dY n)) (dK n) hm.1
  refine ⟨hy.1, hy.2.1, hy.2.2.1, hr, hm.1, hm.2.1, ?_⟩
  have : dD n < mlen (lpB (dY n)) (dK n) := hm.2.2
  omega

end Go.Proofs.YtagdibogjlmgmaaDoor
