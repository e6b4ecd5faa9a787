/-
  The law ShareSums: its walk.
-/
import Derived.Test.YtagdibogjlmgmaaAwake4
import Derived.Test.YtagdibogjlmgmaaSplitLaw
import Derived.Test.YtagdibogjlmgmaaRTimes
import Derived.Test.YtagdibogjlmgmaaRError
import Derived.Test.YtagdibogjlmgmaaRSplitNum
namespace Go.Proofs.Ytagdibogjlmgmaa
set_option linter.unusedVariables false
set_option linter.unusedSimpArgs false
open Go.RowKit

set_option maxHeartbeats 800000 in
theorem l_ssums_many (T : Int) (a : Option Addr) (n c : Nat) (w : World) (hm : n ≤ 9223372036854775807) (h : 40 < n) :
    Calls Try.prog 8 #[.int .i64 T, .slice a n c] w fun e w' => e = .returned (.bool true) ∧ Below w.heap.size w w' := by
  go_enter Try.func8, Try.ntmps8
  go_wp2_with fail
  refine (c_awake04 _).mono ?_
  rintro e w1 ⟨rfl, hb1⟩
  go_wp2_with fail
  refine (c_awake04 _).mono ?_
  rintro e w2 ⟨rfl, hb2⟩
  go_wp2_with fail
  go_ret
  exact ⟨rfl, hb1.trans (hb2.mono hb1.size)⟩

set_option maxHeartbeats 800000 in
theorem l_ssums_bad (T : Int) (a : Option Addr) (n c : Nat) (zs : List Int) (w : World) (hn : zs.length = n) (hr : Rd w a (vals .i64 zs)) (h : n ≤ 40) (he : errS T zs ≠ 0) :
    Calls Try.prog 8 #[.int .i64 T, .slice a n c] w fun e w' => e = .returned (.bool true) ∧ Below w.heap.size w w' := by
  have HR := Lib.hid hr
  have HN := Lib.hid hn
  have HE := Lib.hid he
  clear hr hn he
  go_enter Try.func8, Try.ntmps8
  go_wp2_with fail
  refine (c_awake04 _).mono ?_
  rintro e w1 ⟨rfl, hb1⟩
  have hR1 := Lib.hid (HR.out.below hb1)
  go_wp2_with fail
  refine (c_split_bad T a n c zs _ HN.out (by omega) hR1.out HE.out).mono ?_
  rintro e w3 ⟨rfl, rfl⟩
  have hE := Lib.hid (c_rerror T a n c zs w1 HN.out (by omega) hR1.out)
  have t1 : (errS T zs != 0) = true := by simpa using HE.out
  clear HE
  generalize errS T zs = E at *
  go_wp2_with fail
  refine hE.out.mono ?_
  rintro e w4 ⟨rfl, rfl⟩
  go_wp2_with fail
  go_ret
  exact ⟨rfl, hb1⟩

set_option maxHeartbeats 1600000 in
theorem l_ssums_good (T : Int) (a : Option Addr) (n c : Nat) (zs : List Int) (w : World) (hn : zs.length = n) (hr : Rd w a (vals .i64 zs)) (h : n ≤ 40) (he : errS T zs = 0) :
    Calls Try.prog 8 #[.int .i64 T, .slice a n c] w fun e w' => e = .returned (.bool true) ∧ Below w.heap.size w w' := by
  obtain ⟨hT, hT2, h3, h4, h5, h6⟩ := errS_zero he
  have hS0 := sumL_nonneg zs fun x hx => (h5 x hx).1
  have hSP : sumL zs = 0 ∧ T = 0 ∨ 0 < sumL zs := by
    by_cases hS : sumL zs = 0
    · refine .inl ⟨hS, ?_⟩
      rcases Int.lt_or_le 0 T with h | h
      · have := sum_pos (fun x hx => (h5 x hx).1) (h6 h); omega
      · omega
    · exact .inr (by omega)
  have hsum : sumL (partsOf T zs) = T := by
    rcases hSP with ⟨h1, h2⟩ | h1
    · subst h2
      have hrep : ∀ n, sumL (List.replicate n 0) = 0 := by
        intro n
        induction n with
        | zero => rfl
        | succ n ih => simp [List.replicate_succ, sumL, ih]
      rw [parts_zero zs fun x hx => (h5 x hx).1, hrep]
    · exact parts_sum T zs h1
  have hP0 := parts_nonneg T zs hT fun x hx => (h5 x hx).1
  have HR := Lib.hid hr
  have HN := Lib.hid hn
  have HE := Lib.hid he
  have H5 := Lib.hid h5
  have HSP := Lib.hid hSP
  have HSum := Lib.hid hsum
  have HP0 := Lib.hid hP0
  have HS0 := Lib.hid hS0
  clear hr hn he h5 h6 hSP hsum hP0 hS0 h3 h4
  go_enter Try.func8, Try.ntmps8
  go_wp2_with fail
  refine (c_awake04 _).mono ?_
  rintro e w1 ⟨rfl, hb1⟩
  have hR1 := Lib.hid (HR.out.below hb1)
  have hz1 := hb1.size
  go_wp2_with fail
  refine (c_split T a n c zs _ HN.out hR1.out HE.out).mono ?_
  rintro e w3 ⟨b3, t3, rfl, hl3, hb3, hP3⟩
  have hR3 := Lib.hid (hR1.out.below hb3)
  have hB3 := Lib.hid (hb1.trans (hb3.mono hz1))
  have hP3 := Lib.hid hP3
  have hLP := Lib.hid (show (partsOf T zs).length = n by rw [partsOf_length, HN.out])
  clear hb1 hb3 hl3
  go_wp2_with fail
  go_loop [40, 7, 8] (fun i x y => ∃ (k : Nat) (u v : Int), i = .int .i64 k ∧ x = .int .i64 u ∧ y = .int .i64 v ∧ k ≤ n ∧ 0 ≤ u ∧ u ≤ 1099511627776 ∧ 0 ≤ v ∧ v ≤ 1099511627776 * k ∧ Hid (u = sumL ((partsOf T zs).take k)) ∧ Hid (v = sumL (zs.take k))) (fun i _ _ => n - (intOf i).toNat)
  case atStart => exact ⟨0, 0, 0, rfl, rfl, rfl, by omega, by omega, by omega, by omega, by omega, by show _ = _; simp [sumL], by show _ = _; simp [sumL]⟩
  case round =>
    obtain ⟨k, u, v, rfl, rfl, rfl, hk, u0, u1, v0, v1, hu, hv⟩ := hrel
    by_cases hlt : k < n
    · have hkz : k < zs.length := by rw [HN.out]; exact hlt
      have hkp : k < (partsOf T zs).length := by rw [hLP.out]; exact hlt
      obtain ⟨b, o, rfl, hb, hall, hc⟩ := hR3.out.at k (by simpa using hkz)
      clear hall
      rw [vals_get .i64 zs k hkz] at hc
      have pc := hP3.out.cell k (rowI_get .i64 (partsOf T zs) k hkp)
      have ht := sumL_take_succ' zs k hkz
      have hp := sumL_take_succ' (partsOf T zs) k hkp
      have hle := sumL_take_le (partsOf T zs) HP0.out (k + 1)
      rw [HSum.out] at hle
      obtain ⟨z0, z1⟩ := H5.out zs[k] (List.getElem_mem hkz)
      have p0 := HP0.out _ (List.getElem_mem hkp)
      have pe : (partsOf T zs).getD k 0 = (partsOf T zs)[k] := by simp [hkz]
      rw [pe] at pc
      rw [hp, ← hu.out] at hle
      generalize zs[k] = x at *
      generalize (partsOf T zs)[k] = p at *
      obtain ⟨le0, le1⟩ := hle
      have HT := Lib.hid ht
      have HP := Lib.hid hp
      clear ht hp pe
      go_wp2
      go_round
      case rel => exact ⟨k + 1, u + p, v + x, by go_num, rfl, rfl, by omega, by omega, by omega, by omega, by omega, by have h1 := HP.out; have h2 := hu.out; show _ = _; omega, by have h1 := HT.out; have h2 := hv.out; show _ = _; omega⟩
      case measure => simp [intOf]; omega
    · obtain rfl : k = n := by omega
      have hu1 : u = T := by
        have := hu.out
        rw [List.take_of_length_le (by rw [hLP.out]; exact Nat.le_refl _), HSum.out] at this
        exact this
      have hv1 : v = sumL zs := by
        have := hv.out
        rwa [List.take_of_length_le (by rw [HN.out]; exact Nat.le_refl _)] at this
      subst hu1
      have HV := Lib.hid hv1
      clear hu hv hv1
      rcases HSP.out with ⟨s0, T0⟩ | s0
      · rw [← HV.out] at s0
        subst s0
        subst T0
        clear HSP
        go_wp2
        go_loop [61] (fun i => ∃ (j : Nat), i = .int .i64 j ∧ j ≤ k) (fun i => k - (intOf i).toNat)
        case atStart => exact ⟨0, rfl, by omega⟩
        case round =>
          obtain ⟨j, rfl, hj⟩ := hrel
          by_cases hlt : j < k
          · go_wp2
            go_ret
            exact ⟨rfl, hB3.out⟩
          · obtain rfl : j = k := by omega
            go_wp2
            go_ret
            exact ⟨rfl, hB3.out⟩
      · rw [← HV.out] at s0
        have ts : (v == 0) = false := by simp; omega
        clear HSP
        go_wp2
        go_loop [61] (fun i => ∃ (j : Nat), i = .int .i64 j ∧ j ≤ k) (fun i => k - (intOf i).toNat)
        case atStart => exact ⟨0, rfl, by omega⟩
        case round =>
          obtain ⟨j, rfl, hj⟩ := hrel
          by_cases hlt : j < k
          · have hkz : j < zs.length := by rw [HN.out]; exact hlt
            have hkp : j < (partsOf u zs).length := by rw [hLP.out]; exact hlt
            obtain ⟨b, o, rfl, hb, hall, hc⟩ := hR3.out.at j (by simpa using hkz)
            clear hall
            rw [vals_get .i64 zs j hkz] at hc
            have pc := hP3.out.cell j (rowI_get .i64 (partsOf u zs) j hkp)
            obtain ⟨z0, z1⟩ := H5.out zs[j] (List.getElem_mem hkz)
            have zS : zs[j] ≤ v := by rw [HV.out]; exact mem_le_sum zs (fun x hx => (H5.out x hx).1) _ (List.getElem_mem hkz)
            have hnear := parts_near u zs (by rw [← HV.out]; exact s0) j hkz
            rw [← HV.out] at hnear
            obtain ⟨q0, q1⟩ := q_bd0 u v zs[j] hT s0 z0 zS
            have htm := fun w => c_rtimes u zs[j] v w (by omega) (by omega) z0 (by omega) (by omega) (by omega) (by omega)
            generalize (partsOf u zs).getD j 0 = p at *
            generalize u * zs[j] / v = q at *
            generalize u * zs[j] % v = r at *
            generalize zs[j] = x at *
            have HTM := Lib.hid htm
            clear htm
            rcases hnear with e | ⟨e, e2⟩
            · subst e
              go_wp2_with (go_at_call 27; refine (HTM.out _).mono ?_; rintro e w' ⟨rfl, rfl⟩)
              go_round
              case rel => exact ⟨j + 1, by go_num, by omega⟩
              case measure => simp [intOf]; omega
            · subst e
              have tr : (r == 0) = false := by simpa using e2
              have tq : (q + 1 != q) = true := by simp; omega
              clear e2
              go_wp2_with (go_at_call 27; refine (HTM.out _).mono ?_; rintro e w' ⟨rfl, rfl⟩)
              go_round
              case rel => exact ⟨j + 1, by go_num, by omega⟩
              case measure => simp [intOf]; omega
          · obtain rfl : j = k := by omega
            go_wp2
            go_ret
            exact ⟨rfl, hB3.out⟩

theorem l_ssums (T : Int) (a : Option Addr) (n c : Nat) (zs : List Int) (w : World) (hT : (Lit.int .i64 T).wf = true) (hn : zs.length = n) (hm : n ≤ 9223372036854775807) (hr : Rd w a (vals .i64 zs)) (hz : ∀ x ∈ zs, (Lit.int .i64 x).wf = true) :
    Calls Try.prog 8 #[.int .i64 T, .slice a n c] w fun e w' => e = .returned (.bool true) ∧ Below w.heap.size w w' := by
  by_cases h : n ≤ 40
  · by_cases he : errS T zs = 0
    · exact l_ssums_good T a n c zs w hn hr h he
    · exact l_ssums_bad T a n c zs w hn hr h he
  · exact l_ssums_many T a n c w hm (by omega)

end Go.Proofs.Ytagdibogjlmgmaa
