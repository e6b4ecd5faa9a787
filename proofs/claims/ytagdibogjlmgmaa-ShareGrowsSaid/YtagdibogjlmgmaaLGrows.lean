/-
  The law ShareGrows: its walk.
-/
import Derived.Test.YtagdibogjlmgmaaAwake4
import Derived.Test.YtagdibogjlmgmaaSplitLaw
import Derived.Test.YtagdibogjlmgmaaRSplitNum
namespace Go.Proofs.Ytagdibogjlmgmaa
set_option linter.unusedVariables false
set_option linter.unusedSimpArgs false
open Go.RowKit

set_option maxHeartbeats 800000 in
theorem l_grows_many (T : Int) (a : Option Addr) (n c : Nat) (w : World) (hm : n ≤ 9223372036854775807) (h : 40 < n) :
    Calls Try.prog 9 #[.int .i64 T, .slice a n c] w fun e w' => e = .returned (.bool true) ∧ Below w.heap.size w w' := by
  go_enter Try.func9, Try.ntmps9
  go_wp2_with fail
  refine (c_awake04 _).mono ?_
  rintro e w1 ⟨rfl, hb1⟩
  go_wp2_with fail
  refine (c_awake04 _).mono ?_
  rintro e w2 ⟨rfl, hb2⟩
  go_wp2_with fail
  go_ret
  exact ⟨rfl, hb1.trans (hb2.mono hb1.size)⟩

set_option maxHeartbeats 800000 in
theorem l_grows_bad (T : Int) (a : Option Addr) (n c : Nat) (zs : List Int) (w : World) (hn : zs.length = n) (hr : Rd w a (vals .i64 zs)) (h : n ≤ 40) (he : errS T zs ≠ 0) :
    Calls Try.prog 9 #[.int .i64 T, .slice a n c] w fun e w' => e = .returned (.bool true) ∧ Below w.heap.size w w' := by
  have HR := Lib.hid hr
  have HN := Lib.hid hn
  have HE := Lib.hid he
  clear hr hn he
  go_enter Try.func9, Try.ntmps9
  go_wp2_with fail
  refine (c_awake04 _).mono ?_
  rintro e w1 ⟨rfl, hb1⟩
  have hR1 := Lib.hid (HR.out.below hb1)
  go_wp2_with fail
  refine (c_split_bad T a n c zs _ HN.out (by omega) hR1.out HE.out).mono ?_
  rintro e w3 ⟨rfl, rfl⟩
  have t1 : (errS T zs != 0) = true := by simpa using HE.out
  clear HE
  generalize errS T zs = E at *
  go_wp2_with fail
  go_ret
  exact ⟨rfl, hb1⟩

set_option maxRecDepth 100000 in
set_option maxHeartbeats 3200000 in
theorem l_grows_good (T : Int) (a : Option Addr) (n c : Nat) (zs : List Int) (w : World) (hn : zs.length = n) (hr : Rd w a (vals .i64 zs)) (h : n ≤ 40) (he : errS T zs = 0) :
    Calls Try.prog 9 #[.int .i64 T, .slice a n c] w fun e w' => e = .returned (.bool true) ∧ Below w.heap.size w w' := by
  obtain ⟨hT, hT2, h3, h4, h5, h6⟩ := errS_zero he
  have hS0 := sumL_nonneg zs fun x hx => (h5 x hx).1
  have h2 : ∀ i k (hi : i < zs.length) (hk : k < i), (zs[k]'(Nat.lt_trans hk hi) < zs[i] → (partsOf T zs).getD k 0 ≤ (partsOf T zs).getD i 0) ∧ (zs[i] < zs[k]'(Nat.lt_trans hk hi) → (partsOf T zs).getD i 0 ≤ (partsOf T zs).getD k 0) ∧
      (zs[i] = zs[k]'(Nat.lt_trans hk hi) → (partsOf T zs).getD i 0 ≤ (partsOf T zs).getD k 0 ∧ (partsOf T zs).getD k 0 ≤ (partsOf T zs).getD i 0 + 1) := by
    intro i k hi hk
    by_cases hS : sumL zs = 0
    · have hT0 : T = 0 := by
        rcases Int.lt_or_le 0 T with h | h
        · have := sum_pos (fun x hx => (h5 x hx).1) (h6 h); omega
        · omega
      subst hT0
      rw [parts_zero zs fun x hx => (h5 x hx).1]
      have hkl : k < zs.length := by omega
      simp [hi, hkl]
    · exact parts_two T zs hT (fun x hx => (h5 x hx).1) (by omega) i k hi hk
  have hPB : ∀ i, i < zs.length → 0 ≤ (partsOf T zs).getD i 0 ∧ (partsOf T zs).getD i 0 ≤ 1099511627777 := by
    intro i hi
    have p0 := parts_nonneg T zs hT (fun x hx => (h5 x hx).1) ((partsOf T zs).getD i 0) (by
      have e : (partsOf T zs).getD i 0 = (partsOf T zs)[i]'(by simpa using hi) := by simp [hi]
      rw [e]; exact List.getElem_mem _)
    refine ⟨p0, ?_⟩
    rw [parts_get T zs i hi]
    by_cases hS : sumL zs = 0
    · rw [hS]; simp; split <;> omega
    · have := q_bd0 T (sumL zs) zs[i] hT (by omega) (h5 _ (List.getElem_mem hi)).1 (mem_le_sum zs (fun x hx => (h5 x hx).1) _ (List.getElem_mem hi))
      split <;> omega
  have HR := Lib.hid hr
  have HN := Lib.hid hn
  have HE := Lib.hid he
  have H5 := Lib.hid h5
  have H2 := Lib.hid h2
  have HPB := Lib.hid hPB
  clear hr hn he h5 h6 h2 hPB h3 h4 hS0
  go_enter Try.func9, Try.ntmps9
  go_wp2_with fail
  refine (c_awake04 _).mono ?_
  rintro e w1 ⟨rfl, hb1⟩
  have hR1 := Lib.hid (HR.out.below hb1)
  have hz1 := hb1.size
  go_wp2_with fail
  refine (c_split T a n c zs _ HN.out hR1.out HE.out).mono ?_
  rintro e w3 ⟨b3, t3, rfl, hl3, hb3, hP3⟩
  have hR3 := Lib.hid (hR1.out.below hb3)
  have hB3 := Lib.hid (hb1.trans (hb3.mono hz1))
  have hP3 := Lib.hid hP3
  have hLP := Lib.hid (show (partsOf T zs).length = n by rw [partsOf_length, HN.out])
  clear hb1 hb3 hl3
  go_wp2_with fail
  go_loopw [35] (fun x wr => ∃ (i q : Nat), x = .int .i64 i ∧ i ≤ n ∧ wr = w3.drewN q) (fun x _ => n - (intOf x).toNat)
  case atStart => exact ⟨0, 0, rfl, by omega, rfl⟩
  case round =>
    obtain ⟨i, q, rfl, hi, rfl⟩ := hrel
    by_cases hlt : i < n
    · go_wp2
      obtain ⟨wo, hwo⟩ : ∃ wo : World, wo = w3.drewN q := ⟨_, rfl⟩
      have HWO := Lib.hid hwo
      rw [← hwo]
      clear hwo
      go_loopw [39] (fun x wr => ∃ (k q : Nat), x = .int .i64 k ∧ k ≤ i ∧ wr = w3.drewN q) (fun x _ => i - (intOf x).toNat)
      case atStart => exact ⟨0, q, rfl, by omega, HWO.out⟩
      case round =>
        obtain ⟨k, q2, rfl, hk, rfl⟩ := hrel
        by_cases hlt2 : k < i
        · have hiz : i < zs.length := by rw [HN.out]; exact hlt
          have hkz : k < zs.length := by omega
          obtain ⟨b, o, rfl, hb, hall, hc⟩ := hR3.out.at i (by simpa using hiz)
          have hd := hall k (.int .i64 zs[k]) (by simp [vals, hkz])
          clear hall
          rw [vals_get .i64 zs i hiz] at hc
          have pc := hP3.out.cell i (rowI_get .i64 (partsOf T zs) i (by rw [hLP.out]; exact hlt))
          have pd := hP3.out.cell k (rowI_get .i64 (partsOf T zs) k (by rw [hLP.out]; omega))
          obtain ⟨a1, a2, a3⟩ := H2.out i k hiz hlt2
          obtain ⟨b1, b2⟩ := HPB.out i hiz
          obtain ⟨b4, b5⟩ := HPB.out k hkz
          have hni : (i : Int) < n := by omega
          have hnk : (k : Int) < n := by omega
          generalize (partsOf T zs).getD i 0 = p at *
          generalize (partsOf T zs).getD k 0 = r at *
          generalize zs[i] = x at *
          generalize zs[k] = y at *
          have trel : ∀ m, ∃ (k' q' : Nat), Value.int .i64 ((k : Int) + 1) = .int .i64 k' ∧ k' ≤ i ∧ w3.drewN m = w3.drewN q' := fun m => ⟨k + 1, m, by go_num, by omega, rfl⟩
          have TR := Lib.hid trel
          clear trel
          rcases Int.lt_trichotomy y x with hxy | hxy | hxy
          · have d1 : decide (y < x) = true := by simpa using hxy
            have d2 : decide (p < r) = false := by have := a1 hxy; simpa using this
            have d3 : decide (x < y) = false := by simp; omega
            have d4 : (x == y) = false := by simp; omega
            clear a1 a2 a3 hxy
            go_wp2
            go_quiet (fail)
            go_wp2
            go_quiet (fail)
            go_wp2
            go_roundw
            case rel => exact TR.out _
            case measure => simp [intOf]; omega
          · subst hxy
            obtain ⟨e1, e2⟩ := a3 rfl
            have d1 : decide (y < y) = false := by simp
            have d4 : (y == y) = true := by simp
            have d5 : decide (r < p) = false := by simpa using e1
            have d6 : decide (p + 1 < r) = false := by simpa using e2
            clear a1 a2 a3
            go_wp2
            go_quiet (fail)
            go_wp2
            go_quiet (fail)
            go_wp2
            go_roundw
            case rel => exact TR.out _
            case measure => simp [intOf]; omega
          · have d1 : decide (y < x) = false := by simp; omega
            have d2 : decide (r < p) = false := by have := a2 hxy; simpa using this
            have d3 : decide (x < y) = true := by simpa using hxy
            have d4 : (x == y) = false := by simp; omega
            clear a1 a2 a3 hxy
            go_wp2
            go_quiet (fail)
            go_wp2
            go_quiet (fail)
            go_wp2
            go_roundw
            case rel => exact TR.out _
            case measure => simp [intOf]; omega
        · obtain rfl : k = i := by omega
          go_wp2
          go_roundw
          case rel => exact ⟨k + 1, q2, by go_num, by omega, rfl⟩
          case measure => simp [intOf]; omega
    · obtain rfl : i = n := by omega
      go_wp2
      go_ret
      exact ⟨rfl, below_drewN hB3.out _⟩

theorem l_grows (T : Int) (a : Option Addr) (n c : Nat) (zs : List Int) (w : World) (hT : (Lit.int .i64 T).wf = true) (hn : zs.length = n) (hm : n ≤ 9223372036854775807) (hr : Rd w a (vals .i64 zs)) (hz : ∀ x ∈ zs, (Lit.int .i64 x).wf = true) :
    Calls Try.prog 9 #[.int .i64 T, .slice a n c] w fun e w' => e = .returned (.bool true) ∧ Below w.heap.size w w' := by
  by_cases h : n ≤ 40
  · by_cases he : errS T zs = 0
    · exact l_grows_good T a n c zs w hn hr h he
    · exact l_grows_bad T a n c zs w hn hr h he
  · exact l_grows_many T a n c w hm (by omega)

end Go.Proofs.Ytagdibogjlmgmaa
