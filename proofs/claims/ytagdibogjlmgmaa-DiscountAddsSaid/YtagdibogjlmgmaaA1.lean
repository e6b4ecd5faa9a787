/-
  The walks of small functions of discount and money: each call returns what it computes; memory that was there stays.
-/
import Derived.Test.YtagdibogjlmgmaaRows
import Derived.Test.YtagdibogjlmgmaaNum
import Derived.Test.YtagdibogjlmgmaaShelf
import Derived.WalkKit
import Derived.WalkSpells
import Derived.WalkLawsBesides
import Derived.Lib.Hide
import Derived.Deep.QuietTactic
import Derived.BigQuiet
import Derived.Handy
import Derived.Deep.RegionWith
import Derived.Deep.DeepCutAuto
namespace Go.Proofs.Ytagdibogjlmgmaa
set_option linter.unusedVariables false
set_option linter.unusedSimpArgs false
open Go.RowKit

theorem bcell {W w1 : World} (hb : Below W.heap.size W w1) : (∀ b o, b < W.heap.size → w1.cell? ⟨b, o, none⟩ = W.cell? ⟨b, o, none⟩) ∧ (∀ b o, b < W.heap.size → w1.frozen? ⟨b, o, none⟩ = W.frozen? ⟨b, o, none⟩) :=
  ⟨fun b o h => hb.cell (p := ⟨b, o, none⟩) h, fun b o h => hb.frozen (p := ⟨b, o, none⟩) h⟩



theorem gcd_step (p q : Int) (hp : 0 ≤ p) (hq : 0 ≤ q) : Int.gcd q (p % q) = Int.gcd p q := by
  obtain ⟨m, rfl⟩ := Int.eq_ofNat_of_zero_le hp
  obtain ⟨n, rfl⟩ := Int.eq_ofNat_of_zero_le hq
  show Nat.gcd n (m % n) = Nat.gcd m n
  rw [Nat.gcd_comm, ← Nat.gcd_rec, Nat.gcd_comm]

theorem drew_more {w wr : World} (h : ∃ k, wr = w.drewN k) (n : Nat) : ∃ k, wr.drewN n = w.drewN k := by
  obtain ⟨k, rfl⟩ := h
  exact ⟨k + n, World.drewN_drewN _ _ _⟩

theorem ret_b {a b : Bool} (h : a = b) : Ending.returned (.bool a) = .returned (.bool b) := by rw [h]
theorem ret_i {k : IntKind} {a b : Int} (h : a = b) : Ending.returned (.int k a) = .returned (.int k b) := by rw [h]

set_option maxHeartbeats 400000 in
theorem c_right (n : Int) (w : World) : Calls Try.prog 34 #[.int .i64 n] w fun e w' => e = .returned (.bool (decide (0 ≤ n ∧ n ≤ 1048576))) ∧ w = w' := by
  go_enter Try.func34, Try.ntmps34
  go_wp2
  all_goals (go_ret; exact ⟨ret_b (Bool.eq_iff_iff.2 (by simp; try omega)), rfl⟩)

set_option maxHeartbeats 400000 in
theorem c_based (n : Int) (w : World) : Calls Try.prog 35 #[.int .i64 n] w fun e w' => e = .returned (.bool (decide (n = 360 ∨ n = 365))) ∧ w = w' := by
  go_enter Try.func35, Try.ntmps35
  go_wp2
  all_goals (go_ret; exact ⟨ret_b (Bool.eq_iff_iff.2 (by simp; try omega)), rfl⟩)

set_option maxHeartbeats 400000 in
theorem c_isNaN (n : Int) (w : World) : Calls Try.prog 55 #[.int .u64 n] w fun e w' => e = .returned (.bool false) ∧ w = w' := by
  go_enter Try.func55, Try.ntmps55
  go_wp2
  go_ret
  exact ⟨rfl, rfl⟩


set_option maxHeartbeats 400000 in
theorem c_cmpU (a b : Int) (w : World) : Calls Try.prog 41 #[.int .u64 a, .int .u64 b] w fun e w' => e = .returned (.int .i64 (sgn a b)) ∧ w = w' := by
  go_enter Try.func41, Try.ntmps41
  go_wp2_with (go_at_call 55; refine (c_isNaN _ _).mono ?_; rintro e w' ⟨rfl, rfl⟩)
  all_goals (go_ret; refine ⟨ret_i ?_, rfl⟩; unfold sgn; split <;> first | rfl | omega | (split <;> first | rfl | omega))

set_option maxHeartbeats 400000 in
theorem c_divisor (a b : Int) (w : World) (ha : 0 ≤ a) (hb : 0 ≤ b) : Calls Try.prog 36 #[.int .i64 a, .int .i64 b] w fun e w' => e = .returned (.int .i64 (G a b)) ∧ ∃ k, w' = w.drewN k := by
  go_enter Try.func36, Try.ntmps36
  go_wp2
  go_loopw [0, 1] (fun x y wr => ∃ p q : Int, x = .int .i64 p ∧ y = .int .i64 q ∧ 0 ≤ p ∧ 0 ≤ q ∧ Int.gcd p q = Int.gcd a b ∧ ∃ k, wr = w.drewN k) (fun _ y _ => (intOf y).toNat)
  case atStart => exact ⟨a, b, rfl, rfl, ha, hb, rfl, 0, rfl⟩
  case round =>
    obtain ⟨p, q, rfl, rfl, hp, hq, hg, hw⟩ := hrel
    by_cases h0 : q = 0
    · subst h0
      have hd : G a b = p := by unfold G; rw [← hg]; simp; omega
      go_wp2
      go_ret
      exact ⟨ret_i hd.symm, hw⟩
    · have h1 : 0 < q := by omega
      have hgg : Int.gcd q (p % q) = Int.gcd a b := (gcd_step p q hp hq).trans hg
      have hlt := Int.emod_lt_of_pos p h1
      have hnn := Int.emod_nonneg p h0
      have H := Lib.hid hgg
      clear hgg hg
      go_wp2
      go_quiet (fail)
      go_wp2
      go_roundw
      case rel => exact ⟨q, p % q, rfl, rfl, by omega, hnn, H.out, drew_more hw _⟩
      case measure => simp [intOf]; omega

/-- math/bits.Mul64 over Int. -/
theorem c_mul64 (x y : Int) (w : World) (hx : 0 ≤ x) (hx' : x < 18446744073709551616) (hy : 0 ≤ y) (hy' : y < 18446744073709551616) :
    Calls Try.prog 39 #[.int .u64 x, .int .u64 y] w fun e w' => e = .returned (.tuple #[.int .u64 (x * y / 18446744073709551616), .int .u64 (x * y % 18446744073709551616)]) ∧ w = w' := by
  obtain ⟨m, rfl⟩ := Int.eq_ofNat_of_zero_le hx
  obtain ⟨n, rfl⟩ := Int.eq_ofNat_of_zero_le hy
  refine (Try.bits_Mul64 m n (by omega) (by omega) w).mono ?_
  rintro e w' ⟨rfl, rfl⟩
  refine ⟨?_, rfl⟩
  simp only [Int.natCast_ediv, Int.natCast_emod, Int.natCast_mul]
  rfl

set_option maxHeartbeats 400000 in
theorem c_times (a b : Int) (w : World) (ha : 0 ≤ a) (ha' : a ≤ 9223372036854775807) (hb : 0 ≤ b) (hb' : b ≤ 9223372036854775807) (hp : a * b ≤ 9223372036854775807) :
    Calls Try.prog 37 #[.int .i64 a, .int .i64 b] w fun e w' => e = .returned (.tuple #[.int .i64 (a * b), .bool true]) ∧ w = w' := by
  have h0 : 0 ≤ a * b := Int.mul_nonneg ha hb
  have e1 : a * b / 18446744073709551616 = 0 := by omega
  have e2 : a * b % 18446744073709551616 = a * b := by omega
  go_enter Try.func37, Try.ntmps37
  go_wp2_with (go_at_call 39; refine (c_mul64 a b _ (by omega) (by omega) (by omega) (by omega)).mono ?_; rw [e1, e2]; rintro e w' ⟨rfl, rfl⟩)
  go_ret2
  exact ⟨rfl, rfl⟩

set_option maxHeartbeats 400000 in
theorem c_times_no (a b : Int) (w : World) (ha : 0 ≤ a) (ha' : a ≤ 9223372036854775807) (hb : 0 ≤ b) (hb' : b ≤ 9223372036854775807) (hp : 9223372036854775807 < a * b) :
    Calls Try.prog 37 #[.int .i64 a, .int .i64 b] w fun e w' => e = .returned (.tuple #[.int .i64 (wrap64 (a * b % 18446744073709551616)), .bool false]) ∧ w = w' := by
  by_cases hz : a * b / 18446744073709551616 = 0
  · have hl : decide (a * b % 18446744073709551616 ≤ 9223372036854775807) = false := by simp; omega
    have hz' : (a * b / 18446744073709551616 == 0) = true := by simpa using hz
    go_enter Try.func37, Try.ntmps37
    go_wp2_with (go_at_call 39; refine (c_mul64 a b _ (by omega) (by omega) (by omega) (by omega)).mono ?_; rintro e w' ⟨rfl, rfl⟩)
    all_goals (go_ret2; exact ⟨rfl, rfl⟩)
  · have hz' : (a * b / 18446744073709551616 == 0) = false := by simpa using hz
    clear hz
    go_enter Try.func37, Try.ntmps37
    go_wp2_with (go_at_call 39; refine (c_mul64 a b _ (by omega) (by omega) (by omega) (by omega)).mono ?_; rintro e w' ⟨rfl, rfl⟩)
    go_ret2
    exact ⟨rfl, rfl⟩


theorem div_le (n d : Int) (h : 0 ≤ n) (hd : 1 ≤ d) : n / d ≤ n := Int.ediv_le_self d h
set_option maxHeartbeats 400000 in
theorem c_near (n d : Int) (w : World) (hn : 0 ≤ n) (hn' : n ≤ 9223372036854775807) (hd : 1 ≤ d) (hd' : d ≤ 2305843009213693952) :
    Calls Try.prog 33 #[.agg #[.int .i64 n, .int .i64 d]] w fun e w' => e = .returned (.int .i64 (near n d)) ∧ Below w.heap.size w w' := by
  have h1 := Int.emod_nonneg n (show d ≠ 0 by omega)
  have h2 := Int.emod_lt_of_pos n (show 0 < d by omega)
  have h3 := div_le n d hn hd
  have h4 := Int.ediv_nonneg hn (show 0 ≤ d by omega)
  by_cases hx : d ≤ n % d * 2
  · have hy : n / d + 1 ≤ 9223372036854775807 := by
      by_cases h1' : d = 1
      · subst h1'; simp at hx
      · have : n / d ≤ n / 2 := by
          have := Int.mul_ediv_add_emod n d
          have h5 : 2 * (n / d) ≤ d * (n / d) := Int.mul_le_mul_of_nonneg_right (by omega) h4
          omega
        omega
    go_enter Try.func33, Try.ntmps33
    go_wp2
    go_quiet (fail)
    go_wp2
    go_ret
    exact ⟨ret_i (by unfold near; rw [if_pos hx]), below_drewN ((Below.refl _ _).alloc (Nat.le_refl _) _) _⟩
  · go_enter Try.func33, Try.ntmps33
    go_wp2
    go_quiet (fail)
    go_wp2
    go_ret
    exact ⟨ret_i (by unfold near; rw [if_neg (by omega)]), below_drewN ((Below.refl _ _).alloc (Nat.le_refl _) _) _⟩

set_option maxHeartbeats 400000 in
theorem c_fraction (n d : Int) (w : World) (hn : 0 ≤ n) (hd : 1 ≤ d) :
    Calls Try.prog 54 #[.agg #[.int .i64 n, .int .i64 d]] w fun e w' => e = .returned (.bool true) ∧ Below w.heap.size w w' := by
  go_enter Try.func54, Try.ntmps54
  go_wp2
  all_goals (go_ret; refine ⟨ret_b (by simp [*]), ((Below.refl _ _).alloc (Nat.le_refl _) _)⟩)

set_option maxHeartbeats 400000 in
theorem c_held (n d : Int) (w : World) (hn : 0 ≤ n) (hd : 1 ≤ d) :
    Calls Try.prog 38 #[.agg #[.int .i64 n, .int .i64 d]] w fun e w' => e = .returned (.agg #[.int .i64 n, .int .i64 d]) ∧ Below w.heap.size w w' := by
  go_enter Try.func38, Try.ntmps38
  go_wp2_with (go_at_call 54; refine (c_fraction n d _ hn hd).mono ?_; rintro e w1 ⟨rfl, hb⟩; obtain ⟨hc, hf⟩ := bcell hb; have hz := hb.size; simp at hz)
  exact bodyPost_ret (v := .agg #[.int .i64 n, .int .i64 d]) (by simp [results, Try.results38, go_sem, hc, hz]) rfl ⟨rfl, (((((Below.refl _ _).alloc (Nat.le_refl _) _).alloc (by simp) _).trans (hb.mono (by simp; omega))).setCell (by simp) _).setCell (by simp) _⟩

/-- The first that is not 0. -/
def or2 (a b : Int) : Int := if a = 0 then b else a
set_option maxHeartbeats 400000 in
theorem c_or (a b : Int) (w : World) (B : Nat) (h0 : w.cell? ⟨B, 0, none⟩ = some (.int .i64 a)) (h1 : w.cell? ⟨B, 1, none⟩ = some (.int .i64 b)) :
    Calls Try.prog 40 #[.slice (some ⟨B, 0, none⟩) 2 2] w fun e w' => e = .returned (.int .i64 (or2 a b)) ∧ w = w' := by
  unfold or2
  by_cases ha : a = 0
  · subst ha
    rw [if_pos rfl]
    by_cases hb : b = 0
    · subst hb
      go_enter Try.func40, Try.ntmps40
      go_wp2
      refine wp_loop_rounds 3 ?_
      iterate 3 (rw [rounds_succ]; go_wp2)
      go_ret
      exact ⟨rfl, rfl⟩
    · have hb' : (b == 0) = false := by simpa using hb
      have hb'' : (b != 0) = true := by simpa using hb
      clear hb
      go_enter Try.func40, Try.ntmps40
      go_wp2
      refine wp_loop_rounds 3 ?_
      iterate 2 (rw [rounds_succ]; go_wp2)
      go_ret
      exact ⟨rfl, rfl⟩
  · rw [if_neg ha]
    have hb' : (a == 0) = false := by simpa using ha
    have hb'' : (a != 0) = true := by simpa using ha
    clear ha
    go_enter Try.func40, Try.ntmps40
    go_wp2
    refine wp_loop_rounds 3 ?_
    iterate 1 (rw [rounds_succ]; go_wp2)
    go_ret
    exact ⟨rfl, rfl⟩

theorem sgn2 (a b : Int) (ha : 0 ≤ a) (hb : 0 ≤ b) : or2 (sgn (a / 18446744073709551616) (b / 18446744073709551616)) (sgn (a % 18446744073709551616) (b % 18446744073709551616)) = sgn a b := by
  unfold or2 sgn
  (repeat' split) <;> omega

set_option maxHeartbeats 800000 in
theorem c_compare (an ad bn bd : Int) (w : World) (h1 : 0 ≤ an) (h2 : an ≤ 9223372036854775807) (h3 : 1 ≤ ad) (h4 : ad ≤ 9223372036854775807) (h5 : 0 ≤ bn) (h6 : bn ≤ 9223372036854775807) (h7 : 1 ≤ bd) (h8 : bd ≤ 9223372036854775807) :
    Calls Try.prog 17 #[.agg #[.int .i64 an, .int .i64 ad], .agg #[.int .i64 bn, .int .i64 bd]] w fun e w' => e = .returned (.int .i64 (sgn (an * bd) (bn * ad))) ∧ Below w.heap.size w w' := by
  go_enter Try.func17, Try.ntmps17
  go_upto_region 1 with fail
  go_cut [9] (fun _ wx => Below w.heap.size w wx ∧ w.heap.size + 1 < wx.heap.size ∧ wx.cell? ⟨w.heap.size, 0, none⟩ = some (.int .i64 an) ∧ wx.cell? ⟨w.heap.size, 1, none⟩ = some (.int .i64 ad) ∧ wx.cell? ⟨w.heap.size + 1, 0, none⟩ = some (.int .i64 bn) ∧ wx.cell? ⟨w.heap.size + 1, 1, none⟩ = some (.int .i64 bd))
  case first =>
    go_region_with (first | (go_at_call_of 38 an; refine (c_held an ad _ h1 h3).mono ?_; rintro e w1 ⟨rfl, hb⟩; obtain ⟨hc, hf⟩ := bcell hb; have hz : w.heap.size < w1.heap.size := (by have := hb.size; (try simp at this); omega); have hz1 : w.heap.size + 1 < w1.heap.size := (by have := hb.size; (try simp at this); omega); have hB : Below w.heap.size w w1 := Below.trans (by go_grown) (hb.mono (by go_size)); have q0 : w1.cell? ⟨w.heap.size, 0, none⟩ = some (.int .i64 an) := (hc _ 0 (by go_size)).trans (by first | assumption | (simp [go_sem]; done)); have q1 : w1.cell? ⟨w.heap.size, 1, none⟩ = some (.int .i64 ad) := (hc _ 1 (by go_size)).trans (by first | assumption | (simp [go_sem]; done)); have q2 : w1.cell? ⟨w.heap.size + 1, 0, none⟩ = some (.int .i64 bn) := (hc _ 0 (by go_size)).trans (by first | assumption | (simp [go_sem]; done)); have q3 : w1.cell? ⟨w.heap.size + 1, 1, none⟩ = some (.int .i64 bd) := (hc _ 1 (by go_size)).trans (by first | assumption | (simp [go_sem]; done))) | (go_at_call_of 38 bn; refine (c_held bn bd _ h5 h7).mono ?_; rintro e w1 ⟨rfl, hb⟩; obtain ⟨hc, hf⟩ := bcell hb; have hz : w.heap.size < w1.heap.size := (by have := hb.size; (try simp at this); omega); have hz1 : w.heap.size + 1 < w1.heap.size := (by have := hb.size; (try simp at this); omega); have hB : Below w.heap.size w w1 := Below.trans (by go_grown) (hb.mono (by go_size)); have q0 : w1.cell? ⟨w.heap.size, 0, none⟩ = some (.int .i64 an) := (hc _ 0 (by go_size)).trans (by first | assumption | (simp [go_sem]; done)); have q1 : w1.cell? ⟨w.heap.size, 1, none⟩ = some (.int .i64 ad) := (hc _ 1 (by go_size)).trans (by first | assumption | (simp [go_sem]; done)); have q2 : w1.cell? ⟨w.heap.size + 1, 0, none⟩ = some (.int .i64 bn) := (hc _ 0 (by go_size)).trans (by first | assumption | (simp [go_sem]; done)); have q3 : w1.cell? ⟨w.heap.size + 1, 1, none⟩ = some (.int .i64 bd) := (hc _ 1 (by go_size)).trans (by first | assumption | (simp [go_sem]; done))))
    all_goals
      go_wp2_with fail
      go_meet
      exact ⟨(by go_grown), (by simp; omega), (by simp [go_sem, q0, q1, q2, q3]), (by simp [go_sem, q0, q1, q2, q3]), (by simp [go_sem, q0, q1, q2, q3]), (by simp [go_sem, q0, q1, q2, q3])⟩
  case rest =>
    obtain ⟨hb, hz, q0, q1, q2, q3⟩ := hcut
    go_wp2_with (first | (go_at_call 39; refine (c_mul64 _ _ _ (by omega) (by omega) (by omega) (by omega)).mono ?_; rintro e w' ⟨rfl, rfl⟩) | (go_at_call 41; refine (c_cmpU _ _ _).mono ?_; rintro e w' ⟨rfl, rfl⟩) | (go_at_call 40; refine (c_or _ _ _ _ (World.cell?_alloc_new _ _ _ _) (World.cell?_alloc_new _ _ _ _)).mono ?_; rintro e w' ⟨rfl, rfl⟩))
    go_ret
    refine ⟨ret_i ?_, (hb.alloc (by omega) _)⟩
    exact sgn2 _ _ (Int.mul_nonneg h1 (by omega)) (Int.mul_nonneg h5 (by omega))

end Go.Proofs.Ytagdibogjlmgmaa
