/-
  The reference's Scaled, Insured, Pays (layer 42): their walks.
-/
import Derived.Test.YtbcmaaoddnaoiaaRPol
import Derived.Test.YtbcmaaoddnaoiaaPolSl
namespace Go.Proofs.Ytbcmaaoddnaoiaa
set_option linter.unusedVariables false
set_option linter.unusedSimpArgs false
open Go.RowKit

theorem dbl_div (X c : Int) (hc : 1 ≤ c) (hX : 0 ≤ X) : 2 * X / c = 2 * (X / c) + (if c ≤ 2 * (X % c) then 1 else 0) ∧ 2 * X % c = 2 * (X % c) - (if c ≤ 2 * (X % c) then c else 0) := by
  have h1 := Int.mul_ediv_add_emod X c
  have h2 := Int.emod_nonneg X (show c ≠ 0 by omega)
  have h3 := Int.emod_lt_of_pos X (show 0 < c by omega)
  generalize X / c = q at *
  generalize X % c = r at *
  subst h1
  split
  · rename_i h
    have e : 2 * (c * q + r) = (2 * q + 1) * c + (2 * r - c) := by grind
    rw [e]
    constructor
    · rw [Int.add_comm, Int.add_mul_ediv_right _ _ (by omega), Int.ediv_eq_zero_of_lt (by omega) (by omega)]; omega
    · rw [Int.add_comm, Int.add_mul_emod_self_right, Int.emod_eq_of_lt (by omega) (by omega)]
  · rename_i h
    have e : 2 * (c * q + r) = (2 * q) * c + 2 * r := by grind
    rw [e]
    constructor
    · rw [Int.add_comm, Int.add_mul_ediv_right _ _ (by omega), Int.ediv_eq_zero_of_lt (by omega) (by omega)]; omega
    · rw [Int.add_comm, Int.add_mul_emod_self_right, Int.emod_eq_of_lt (by omega) (by omega)]; omega
theorem add_div (X Y c : Int) (hc : 1 ≤ c) : (X + Y) / c = X / c + Y / c + (if c ≤ X % c + Y % c then 1 else 0) := by
  have h1 := Int.mul_ediv_add_emod X c
  have h2 := Int.emod_nonneg X (show c ≠ 0 by omega)
  have h3 := Int.emod_lt_of_pos X (show 0 < c by omega)
  have g1 := Int.mul_ediv_add_emod Y c
  have g2 := Int.emod_nonneg Y (show c ≠ 0 by omega)
  have g3 := Int.emod_lt_of_pos Y (show 0 < c by omega)
  generalize X / c = q at *
  generalize X % c = r at *
  generalize Y / c = p at *
  generalize Y % c = t at *
  subst h1 g1
  split
  · have e : c * q + r + (c * p + t) = (q + p + 1) * c + (r + t - c) := by grind
    rw [e, Int.add_comm, Int.add_mul_ediv_right _ _ (by omega), Int.ediv_eq_zero_of_lt (by omega) (by omega)]; omega
  · have e : c * q + r + (c * p + t) = (q + p) * c + (r + t) := by grind
    rw [e, Int.add_comm, Int.add_mul_ediv_right _ _ (by omega), Int.ediv_eq_zero_of_lt (by omega) (by omega)]; omega

set_option maxRecDepth 100000 in
set_option maxHeartbeats 1600000 in
theorem c_scaled (a b c : Int) (w : World) (ha : 0 ≤ a ∧ a ≤ 1099511627776) (hb : 0 ≤ b ∧ b ≤ c) (hc : 1 ≤ c ∧ c ≤ 1099511627776) :
    Calls Try.prog 98 #[.int .i64 a, .int .i64 b, .int .i64 c] w fun e w' => e = .returned (.int .i64 (a * b / c)) ∧ ∃ q, w' = w.drewN q := by
  obtain ⟨a0, a1⟩ := ha
  obtain ⟨b0, b1⟩ := hb
  obtain ⟨c0, c1⟩ := hc
  have h0 : 0 ≤ b / 1048576 := by omega
  have h1 : b / 1048576 ≤ 1048576 := by omega
  have l0 : 0 ≤ b % 1048576 := by omega
  have l1 : b % 1048576 ≤ 1048575 := by omega
  have hb : b = b / 1048576 * 1048576 + b % 1048576 := by omega
  have hab : a * b = a * (b / 1048576) * 1048576 + a * (b % 1048576) := by
    rw [Int.mul_assoc, ← Int.mul_add, ← hb]
  have H0 : 0 ≤ a * (b / 1048576) := Int.mul_nonneg a0 h0
  have H1 : a * (b / 1048576) ≤ 1099511627776 * 1048576 := Int.mul_le_mul a1 h1 h0 (by omega)
  have L0 : 0 ≤ a * (b % 1048576) := Int.mul_nonneg a0 l0
  have L1 : a * (b % 1048576) ≤ 1099511627776 * 1048575 := Int.mul_le_mul a1 l1 l0 (by omega)
  have hac : a * b ≤ a * c := Int.mul_le_mul_of_nonneg_left b1 a0
  have e1 : IntKind.i64.wrap (a * (b / 1048576)) = a * (b / 1048576) := IntWalk.i64_in _ (by omega)
  have e2 : IntKind.i64.wrap (a * (b % 1048576)) = a * (b % 1048576) := IntWalk.i64_in _ (by omega)
  obtain ⟨Z, hZ⟩ : ∃ Z, Z = a * b / c := ⟨_, rfl⟩
  rw [← hZ]
  rw [hab] at hZ hac
  have HZ := Lib.hid hZ
  have HAc := Lib.hid hac
  clear hb hab hZ hac
  go_enter Try.func98, Try.ntmps98
  go_wp2
  clear e1 e2
  go_quiet (fail)
  go_wp2
  clear h0 h1 l0 l1
  generalize a * (b / 1048576) = X0 at *
  generalize a * (b % 1048576) = Lw at *
  generalize hAC : a * c = AC at *
  have hq : ∀ X : Int, 0 ≤ X → X ≤ AC → 0 ≤ X / c ∧ X / c ≤ a := fun X x0 x1 => by
    refine ⟨Int.ediv_nonneg x0 (by omega), ?_⟩
    have := Int.ediv_le_ediv (show 0 < c by omega) x1
    rwa [← hAC, Int.mul_ediv_cancel _ (by omega)] at this
  have HQ := Lib.hid hq
  clear hAC hq
  have hpow : ∀ k : Nat, k ≤ 20 → X0 * 2 ^ k ≤ AC := fun k hk => by
    have h1 : (2 : Int) ^ k ≤ 2 ^ 20 := by
      have := Nat.pow_le_pow_right (show 0 < 2 by omega) hk
      exact_mod_cast this
    have h2 : X0 * 2 ^ k ≤ X0 * 2 ^ 20 := Int.mul_le_mul_of_nonneg_left h1 H0
    have h3 := HAc.out
    have h4 : X0 * (2 : Int) ^ 20 = X0 * 1048576 := by rw [show (2 : Int) ^ 20 = 1048576 from by decide]
    omega
  have HPow := Lib.hid hpow
  clear hpow
  go_loop [9, 10, 11] (fun x y z => ∃ (k : Nat) (X : Int), x = .int .i64 (X / c) ∧ y = .int .i64 (X % c) ∧ z = .int .i64 k ∧ k ≤ 20 ∧ Hid (X = X0 * 2 ^ k) ∧ 0 ≤ X ∧ X ≤ AC) (fun _ _ z => 20 - (intOf z).toNat)
  case atStart => exact ⟨0, X0, rfl, rfl, rfl, by omega, by show _ = _; simp, H0, by have := HPow.out 0 (by omega); simpa using this⟩
  case round =>
    obtain ⟨k, X, rfl, rfl, rfl, hk, hX, x0, x1⟩ := hrel
    obtain ⟨q0, q1⟩ := HQ.out X x0 x1
    have r0 := Int.emod_nonneg X (show c ≠ 0 by omega)
    have r1 := Int.emod_lt_of_pos X (show 0 < c by omega)
    by_cases hlt : k < 20
    · obtain ⟨d1, d2⟩ := dbl_div X c c0 x0
      have hX2 : 2 * X = X0 * 2 ^ (k + 1) := by rw [hX.out, Int.pow_succ]; grind
      have x2 : 2 * X ≤ AC := by rw [hX2]; exact HPow.out (k + 1) (by omega)
      have HX2 := Lib.hid hX2
      have x3 : 0 ≤ 2 * X := by omega
      obtain ⟨p0, p1⟩ := HQ.out (2 * X) x3 x2
      by_cases hge : c ≤ 2 * (X % c)
      · rw [if_pos hge] at d1 d2
        have D1 := Lib.hid d1
        have D2 := Lib.hid d2
        have hq2 : 2 * (X / c) + 1 ≤ a := by omega
        clear hX hX2 d1 d2 p0 p1
        generalize X / c = q at *
        generalize X % c = r at *
        have t1 : decide (r * 2 < c) = false := by simp; omega
        go_wp2
        go_round
        case rel => exact ⟨k + 1, 2 * X, by rw [D1.out]; exact congrArg _ (by omega), by rw [D2.out]; exact congrArg _ (by omega), by go_num, by omega, HX2.out, x3, x2⟩
        case measure => simp [intOf]; omega
      · rw [if_neg hge] at d1 d2
        have D1 := Lib.hid d1
        have D2 := Lib.hid d2
        have hq2 : 2 * (X / c) ≤ a := by omega
        clear hX hX2 d1 d2 p0 p1
        generalize X / c = q at *
        generalize X % c = r at *
        go_wp2
        go_round
        case rel => exact ⟨k + 1, 2 * X, by rw [D1.out]; exact congrArg _ (by omega), by rw [D2.out]; exact congrArg _ (by omega), by go_num, by omega, HX2.out, x3, x2⟩
        case measure => simp [intOf]; omega
    · obtain rfl : k = 20 := by omega
      have hx : X = X0 * 1048576 := by have := hX.out; rw [show (2 : Int) ^ 20 = 1048576 from by decide] at this; exact this
      have hz := HZ.out
      rw [← hx, add_div X Lw c c0] at hz
      have HZ2 := Lib.hid hz
      have w0 := Int.ediv_nonneg L0 (show 0 ≤ c by omega)
      have w1 := Int.ediv_le_self c L0
      have v0 := Int.emod_nonneg Lw (show c ≠ 0 by omega)
      have v1 := Int.emod_lt_of_pos Lw (show 0 < c by omega)
      clear hx hz hX
      by_cases hge : c ≤ X % c + Lw % c
      · have hz := HZ2.out
        rw [if_pos hge] at hz
        have HZ3 := Lib.hid hz
        clear hz
        go_wp2
        go_ret
        exact ⟨ret_i HZ3.out.symm, nq, rfl⟩
      · have hz := HZ2.out
        rw [if_neg hge] at hz
        have HZ3 := Lib.hid hz
        clear hz
        go_wp2
        go_ret
        exact ⟨ret_i (by rw [HZ3.out]; omega), nq, rfl⟩

set_option maxHeartbeats 400000 in
theorem c_rins (p : Pol) (value : Int) (w : World) : Calls Try.prog 99 #[p.v, .int .i64 value] w fun e w' => e = .returned (.int .i64 (min value p.sum)) ∧ Below w.heap.size w w' := by
  unfold Pol.v polV
  by_cases h : value < p.sum
  · have hm := Lib.hid (show min value p.sum = value by omega)
    go_enter Try.func99, Try.ntmps99
    go_wp2
    go_ret
    exact ⟨ret_i hm.out.symm, (Below.refl _ _).alloc (Nat.le_refl _) _⟩
  · have hm := Lib.hid (show min value p.sum = p.sum by omega)
    go_enter Try.func99, Try.ntmps99
    go_wp2
    go_ret
    exact ⟨ret_i hm.out.symm, (Below.refl _ _).alloc (Nat.le_refl _) _⟩

set_option maxRecDepth 100000 in
set_option maxHeartbeats 3200000 in
theorem c_rppays (p : Pol) (loss value : Int) (w : World) (hmay : p.may = true) (hv : 1 ≤ value ∧ value ≤ 1099511627776) (hl : 0 ≤ loss ∧ loss ≤ 1099511627776) :
    Calls Try.prog 73 #[p.v, .int .i64 loss, .int .i64 value] w fun e w' => e = .returned (.int .i64 (p.pays loss value)) ∧ Below w.heap.size w w' := by
  have hf := mayP_facts (show mayP p.i p.f p.t p.sum p.own p.z p.first p.last p.share = true from hmay)
  obtain ⟨_, ⟨s0, s1⟩, ⟨o0, o1⟩, ⟨h0, h1⟩, _⟩ := hf
  obtain ⟨v0, v1⟩ := hv
  obtain ⟨l0, l1⟩ := hl
  have HI := fun w => c_rins p value w
  have hmn : 1 ≤ min value p.sum ∧ min value p.sum ≤ value := by omega
  have HS := fun w => c_scaled (min loss value) (min value p.sum) value w ⟨by omega, by omega⟩ ⟨by omega, hmn.2⟩ ⟨v0, v1⟩
  have hsc := scaled_bd (min loss value) (min value p.sum) value (by omega) (by omega) hmn.2 v0
  unfold Pol.pays paysP
  unfold Pol.v polV at HI ⊢
  generalize hQ : min loss value * min value p.sum / value = Q at *
  obtain ⟨q0, q1, _⟩ := hsc
  have HI := Lib.hid HI
  have HS := Lib.hid HS
  have e1 : IntKind.i64.wrap (Q - p.own) = Q - p.own := IntWalk.i64_in _ (by omega)
  have r2 : 0 ≤ max (Q - p.own) 0 * p.share := Int.mul_nonneg (by omega) (by omega)
  have r3 : max (Q - p.own) 0 * p.share ≤ 1099511627776 * 1000 := Int.mul_le_mul (by omega) h1 (by omega) (by omega)
  clear hQ hmn hmay
  have BK := Lib.hid (Blk.new w 57 #[.string p.i, .string p.f, .string p.t, .int .i64 p.sum, .int .i64 p.own, .slice p.ca p.cn p.cc, .int .i64 p.first, .int .i64 p.last, .int .i64 p.share])
  have HB0 := Lib.hid ((Below.refl w.heap.size w).alloc (Nat.le_refl _) (.cells #[.string p.i, .string p.f, .string p.t, .int .i64 p.sum, .int .i64 p.own, .slice p.ca p.cn p.cc, .int .i64 p.first, .int .i64 p.last, .int .i64 p.share] 57))
  by_cases hlv : loss ≤ value
  · have hm : min loss value = loss := by omega
    rw [hm] at HS
    clear hm
    go_enter Try.func73, Try.ntmps73
    go_wp2
    go_region_with (first | (go_at_call 99; (with_reducible refine (HI.out _).mono ?_); rintro e w1 ⟨rfl, hb1⟩; have j4 := (BK.out.drew.below hb1 BK.out.drew.lt).cell 4 rfl; have j8 := (BK.out.drew.below hb1 BK.out.drew.lt).cell 8 rfl; have HB1 := Lib.hid (HB0.out.drew.trans (hb1.mono HB0.out.drew.size)); clear hb1) | (go_at_call 98; (with_reducible refine (HS.out _).mono ?_); rintro e w2 ⟨rfl, q, rfl⟩))
    all_goals
      have HB2 := Lib.hid (below_drewN HB1.out q)
      by_cases hneg : Q - p.own < 0
      · have hz := Lib.hid (show max (Q - p.own) 0 * p.share / 1000 = 0 by rw [show max (Q - p.own) 0 = 0 by omega]; simp)
        go_wp2
        go_ret
        exact ⟨ret_i hz.out.symm, HB2.out⟩
      · have hz : max (Q - p.own) 0 = Q - p.own := by omega
        rw [hz] at r2 r3
        have hzz := Lib.hid (show max (Q - p.own) 0 * p.share / 1000 = (Q - p.own) * p.share / 1000 by rw [hz])
        clear hz
        go_wp2
        go_ret
        exact ⟨ret_i hzz.out.symm, HB2.out⟩
  · have hm : min loss value = value := by omega
    rw [hm] at HS
    clear hm
    have hvl : value < loss := by omega
    go_enter Try.func73, Try.ntmps73
    go_wp2
    go_region_with (first | (go_at_call 99; (with_reducible refine (HI.out _).mono ?_); rintro e w1 ⟨rfl, hb1⟩; have j4 := (BK.out.drew.below hb1 BK.out.drew.lt).cell 4 rfl; have j8 := (BK.out.drew.below hb1 BK.out.drew.lt).cell 8 rfl; have HB1 := Lib.hid (HB0.out.drew.trans (hb1.mono HB0.out.drew.size)); clear hb1) | (go_at_call 98; (with_reducible refine (HS.out _).mono ?_); rintro e w2 ⟨rfl, q, rfl⟩))
    all_goals
      have HB2 := Lib.hid (below_drewN HB1.out q)
      by_cases hneg : Q - p.own < 0
      · have hz := Lib.hid (show max (Q - p.own) 0 * p.share / 1000 = 0 by rw [show max (Q - p.own) 0 = 0 by omega]; simp)
        go_wp2
        go_ret
        exact ⟨ret_i hz.out.symm, HB2.out⟩
      · have hz : max (Q - p.own) 0 = Q - p.own := by omega
        rw [hz] at r2 r3
        have hzz := Lib.hid (show max (Q - p.own) 0 * p.share / 1000 = (Q - p.own) * p.share / 1000 by rw [hz])
        clear hz
        go_wp2
        go_ret
        exact ⟨ret_i hzz.out.symm, HB2.out⟩

end Go.Proofs.Ytbcmaaoddnaoiaa
