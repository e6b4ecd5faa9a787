/-
  The law ClaimWhole: its walk.
-/
import Derived.Test.YtbcmaaoddnaoiaaAwake44
import Derived.Test.YtbcmaaoddnaoiaaRTimes
namespace Go.Proofs.Ytbcmaaoddnaoiaa
set_option linter.unusedVariables false
set_option linter.unusedSimpArgs false
open Go.RowKit

set_option maxHeartbeats 400000 in
theorem c_rline (p : Pol) (w : World) (h : p.may = true) : Calls Try.prog 30 #[p.v] w fun e w' => e = .returned (.int .i64 p.line) ∧ Below w.heap.size w w' := by
  obtain ⟨⟨s0, s1⟩, _, ⟨h0, h1⟩⟩ := Pol.may_facts h
  have hb := Pol.line_bd h
  clear h
  unfold Pol.line at hb ⊢
  unfold Pol.v polV
  have HT := Lib.hid (fun w => c_rtimes p.sum p.share 1000 w (by omega) (by omega) (by omega) (by omega) (by omega) (by omega) (by omega))
  generalize p.sum * p.share / 1000 = z at *
  go_enter Try.func30, Try.ntmps30
  go_wp2_with (go_at_call 21; (with_reducible refine (HT.out _).mono ?_); rintro e w' ⟨rfl, rfl⟩)
  go_ret
  exact ⟨rfl, (Below.refl _ _).alloc (Nat.le_refl _) _⟩

/-- Are policies few, and short? -/
def fewP (L : List Pol) : Bool := decide (∀ k, k < L.length → (L.map Pol.cn).getD k 0 ≤ 70) && decide (L.length ≤ 12)
theorem cn_getD (L : List Pol) (k : Nat) (h : k < L.length) : (L.map Pol.cn).getD k 0 = L[k].cn := by simp [h]
set_option maxRecDepth 100000 in
set_option maxHeartbeats 1600000 in
theorem c_few44 (a : Option Addr) (n c : Nat) (L : List Pol) (w : World) (hn : L.length = n) (hm : n ≤ 9223372036854775807) (hr : Pols w a L) :
    Calls Try.prog 28 #[.slice a n c] w fun e w' => e = .returned (.bool (fewP L)) ∧ w = w' := by
  have HR := Lib.hid hr
  have HN := Lib.hid hn
  clear hr hn
  go_enter Try.func28, Try.ntmps28
  go_wp2
  go_loop [3] (fun x => ∃ k : Nat, x = .int .i64 k ∧ k ≤ n ∧ Hid (∀ j, j < k → (L.map Pol.cn).getD j 0 ≤ 70)) (fun x => n - (intOf x).toNat)
  case atStart => exact ⟨0, rfl, by omega, by intro j hj; omega⟩
  case round =>
    obtain ⟨k, rfl, hk, hA⟩ := hrel
    by_cases hlt : k < n
    · have hkL : k < L.length := by rw [HN.out]; exact hlt
      obtain ⟨b, o, rfl, hb, c0, c1, c2, c3, c4, c5, c6, c7, c8⟩ := HR.out.at k hkL
      have hget := cn_getD L k hkL
      have hcn := (HR.out.ok _ (List.getElem_mem hkL)).hn
      clear c0 c1 c2 c3 c4 c6 c7 c8
      by_cases hbig : L[k].cn ≤ 70
      · have HA := Lib.hid (show ∀ j, j < k + 1 → (L.map Pol.cn).getD j 0 ≤ 70 from fun j hj => by
          rcases Nat.lt_or_ge j k with h | h
          · exact hA.out j h
          · obtain rfl : j = k := by omega
            rw [hget]; exact hbig)
        clear hget
        generalize L[k].ca = ca at *
        generalize L[k].cn = cn at *
        generalize L[k].cc = cc at *
        go_wp2
        go_round
        case rel => exact ⟨k + 1, by go_num, by omega, HA.out⟩
        case measure => simp [intOf]; omega
      · have HF := Lib.hid (show fewP L = false by
          unfold fewP
          rw [show decide (∀ k, k < L.length → (L.map Pol.cn).getD k 0 ≤ 70) = false from decide_eq_false fun h => hbig (by have := h k hkL; rw [hget] at this; exact this)]
          rfl)
        clear hget
        generalize L[k].ca = ca at *
        generalize L[k].cn = cn at *
        generalize L[k].cc = cc at *
        go_wp2
        go_ret
        exact ⟨ret_b HF.out.symm, rfl⟩
    · obtain rfl : k = n := by omega
      have HF := Lib.hid (show fewP L = decide (k ≤ 12) by
        unfold fewP
        rw [HN.out, show decide (∀ j, j < k → (L.map Pol.cn).getD j 0 ≤ 70) = true from decide_eq_true hA.out]
        simp)
      go_wp2
      go_ret
      exact ⟨ret_b (HF.out.trans (Bool.eq_iff_iff.2 (by simp; try omega))).symm, rfl⟩

theorem shares_facts {loss : Int} {L : List Pol} (h : shareBad loss L = false) : (sharesP loss L).length = L.length ∧ sumL (sharesP loss L) = min loss (sumL (linesP L)) ∧
    ∀ k, k < L.length → 0 ≤ (sharesP loss L).getD k 0 ∧ (sharesP loss L).getD k 0 ≤ (linesP L).getD k 0 ∧ (linesP L).getD k 0 ≤ 1099511627776 := by
  unfold shareBad at h
  simp only [Bool.or_eq_false_iff, decide_eq_false_iff_not, Bool.not_eq_false'] at h
  obtain ⟨⟨h1, h2⟩, h3⟩ := h
  unfold amtB at h3
  simp only [decide_eq_true_eq] at h3
  have hbd := linesP_bd h2
  have hg : ∀ k, k < L.length → 0 ≤ (linesP L).getD k 0 ∧ (linesP L).getD k 0 ≤ 1099511627776 := fun k hk => by
    have hk2 : k < (linesP L).length := by rw [linesP_length]; exact hk
    rw [List.getD_eq_getElem?_getD, List.getElem?_eq_getElem hk2]
    exact hbd _ (List.getElem_mem hk2)
  unfold sharesP
  by_cases hs : sumL (linesP L) < loss
  · rw [if_pos hs]
    exact ⟨linesP_length L, by omega, fun k hk => ⟨(hg k hk).1, Int.le_refl _, (hg k hk).2⟩⟩
  · rw [if_neg hs]
    have hS0 := sumL_nonneg (linesP L) fun x hx => (hbd x hx).1
    refine ⟨by rw [partsOf_length, linesP_length], ?_, fun k hk => ?_⟩
    · by_cases hS : sumL (linesP L) = 0
      · obtain rfl : loss = 0 := by omega
        rw [parts_zero _ fun x hx => (hbd x hx).1, hS]
        have hrep : ∀ n, sumL (List.replicate n 0) = 0 := by
          intro n
          induction n with
          | zero => rfl
          | succ n ih => simp [List.replicate_succ, sumL, ih]
        rw [hrep]
        rfl
      · rw [parts_sum _ _ (by omega)]
        omega
    · have hk2 : k < (linesP L).length := by rw [linesP_length]; exact hk
      have hk3 : k < (partsOf loss (linesP L)).length := by rw [partsOf_length]; exact hk2
      have hnn := parts_nonneg loss (linesP L) h3.1 (fun x hx => (hbd x hx).1) ((partsOf loss (linesP L))[k]) (List.getElem_mem hk3)
      have e1 : (partsOf loss (linesP L)).getD k 0 = (partsOf loss (linesP L))[k] := by rw [List.getD_eq_getElem?_getD, List.getElem?_eq_getElem hk3]; rfl
      have e2 : (linesP L).getD k 0 = (linesP L)[k] := by rw [List.getD_eq_getElem?_getD, List.getElem?_eq_getElem hk2]; rfl
      refine ⟨by rw [e1]; exact hnn, ?_, (hg k hk).2⟩
      have hx := hg k hk
      rw [e2] at hx
      by_cases hS : sumL (linesP L) = 0
      · obtain rfl : loss = 0 := by omega
        rw [parts_zero _ fun x hx => (hbd x hx).1, e2]
        have : (List.replicate (linesP L).length (0 : Int)).getD k 0 = 0 := by simp [hk]
        omega
      · have hmul : loss * (linesP L)[k] ≤ sumL (linesP L) * (linesP L)[k] := Int.mul_le_mul_of_nonneg_right (by omega) hx.1
        have hle := Int.ediv_le_ediv (show 0 < sumL (linesP L) by omega) hmul
        rw [Int.mul_ediv_cancel_left _ hS] at hle
        rw [e2]
        rcases parts_near loss (linesP L) (by omega) k hk2 with h | ⟨h, hne⟩
        · rw [h]; exact hle
        · rw [h]
          rcases Int.lt_or_le (loss * (linesP L)[k] / sumL (linesP L)) ((linesP L)[k]) with h5 | h5
          · omega
          · exfalso
            have h6 : loss * (linesP L)[k] / sumL (linesP L) = (linesP L)[k] := by omega
            have h7 := Int.mul_ediv_add_emod (loss * (linesP L)[k]) (sumL (linesP L))
            rw [h6] at h7
            have h8 := Int.emod_nonneg (loss * (linesP L)[k]) hS
            omega

set_option maxHeartbeats 1600000 in
theorem l_clwhole_few (loss : Int) (a : Option Addr) (n c : Nat) (L : List Pol) (w : World) (hn : L.length = n) (hm : n ≤ 9223372036854775807) (hr : Pols w a L) (hf : fewP L = false) :
    Calls Try.prog 10 #[.int .i64 loss, .slice a n c] w fun e w' => e = .returned (.bool true) ∧ Below w.heap.size w w' := by
  have HF := Lib.hid (fun w hr => c_few44 a n c L w hn hm hr)
  rw [hf] at HF
  have HR := Lib.hid hr
  clear hn hr hf
  go_enter Try.func10, Try.ntmps10
  go_wp2_with fail
  refine (c_awake44 _).mono ?_
  rintro e w1 ⟨rfl, hb1⟩
  go_wp2_with fail
  refine (HF.out _ (HR.out.below hb1)).mono ?_
  rintro e w2 ⟨rfl, rfl⟩
  go_wp2_with fail
  refine (c_awake44 _).mono ?_
  rintro e w3 ⟨rfl, hb3⟩
  have HB := Lib.hid (hb1.trans (hb3.mono hb1.size))
  go_wp2_with fail
  go_ret
  exact ⟨rfl, HB.out⟩

set_option maxHeartbeats 1600000 in
theorem l_clwhole_bad (loss : Int) (a : Option Addr) (n c : Nat) (L : List Pol) (w : World) (hn : L.length = n) (hm : n ≤ 9223372036854775807) (hr : Pols w a L) (hf : fewP L = true) (hb : shareBad loss L = true) :
    Calls Try.prog 10 #[.int .i64 loss, .slice a n c] w fun e w' => e = .returned (.bool true) ∧ Below w.heap.size w w' := by
  have HF := Lib.hid (fun w hr => c_few44 a n c L w hn hm hr)
  rw [hf] at HF
  have HS := Lib.hid (fun w hr => c_share_bad loss a n c L w hn hm hr hb)
  have HR := Lib.hid hr
  clear hn hr hf hb
  go_enter Try.func10, Try.ntmps10
  go_wp2_with fail
  refine (c_awake44 _).mono ?_
  rintro e w1 ⟨rfl, hb1⟩
  go_wp2_with fail
  refine (HF.out _ (HR.out.below hb1)).mono ?_
  rintro e w2 ⟨rfl, rfl⟩
  go_wp2_with fail
  refine (HS.out _ (HR.out.below hb1)).mono ?_
  rintro e w3 ⟨rfl, hb3⟩
  have HB := Lib.hid (hb1.trans (hb3.mono hb1.size))
  go_wp2_with fail
  go_ret
  exact ⟨rfl, HB.out⟩

set_option maxRecDepth 100000 in
set_option maxHeartbeats 3200000 in
theorem l_clwhole_good (loss : Int) (a : Option Addr) (n c : Nat) (L : List Pol) (w : World) (hn : L.length = n) (hm : n ≤ 12) (hr : Pols w a L) (hf : fewP L = true) (hb : shareBad loss L = false) :
    Calls Try.prog 10 #[.int .i64 loss, .slice a n c] w fun e w' => e = .returned (.bool true) ∧ Below w.heap.size w w' := by
  have HF := Lib.hid (fun w hr => c_few44 a n c L w hn (by omega) hr)
  rw [hf] at HF
  have HS := fun w hr => c_share_ok loss a n c L w hn (by omega) hr hb
  unfold ShareOk at HS
  have HS := Lib.hid HS
  obtain ⟨f1, f2, f3⟩ := shares_facts hb
  have hb2 := hb
  unfold shareBad at hb2
  simp only [Bool.or_eq_false_iff, decide_eq_false_iff_not, Bool.not_eq_false'] at hb2
  obtain ⟨⟨_, ho⟩, ha⟩ := hb2
  have hl : 0 ≤ loss ∧ loss ≤ 1099511627776 := by unfold amtB at ha; simpa using ha
  obtain ⟨l0, l1⟩ := hl
  have HMay := Lib.hid (oddP_false ho)
  have hll : (linesP L).length = n := by rw [linesP_length, hn]
  have hlg : ∀ k (hk : k < L.length), (linesP L).getD k 0 = L[k].line := fun k hk => by simp [linesP, hk]
  rw [hn] at f1 f3
  have HZl := Lib.hid f1
  have HZs := Lib.hid f2
  have HZf := Lib.hid f3
  have HLl := Lib.hid hll
  have HLg := Lib.hid hlg
  have HR := Lib.hid hr
  have HN := Lib.hid hn
  clear hn hr hf hb ho ha f1 f2 f3 hll hlg
  generalize sharesP loss L = zs at *
  go_enter Try.func10, Try.ntmps10
  go_wp2_with fail
  refine (c_awake44 _).mono ?_
  rintro e w1 ⟨rfl, hb1⟩
  go_wp2_with fail
  refine (HF.out _ (HR.out.below hb1)).mono ?_
  rintro e w2 ⟨rfl, rfl⟩
  go_wp2_with fail
  refine (HS.out _ (HR.out.below hb1)).mono ?_
  rintro e w3 ⟨A3, c3, rfl, hr3, hb3⟩
  have HB3 := Lib.hid (hb1.trans (hb3.mono hb1.size))
  have HR3 := Lib.hid (HR.out.below HB3.out)
  have HA3 := Lib.hid hr3
  clear hb1 hb3 hr3 HF HS
  go_wp2_with fail
  go_loopw [7, 8, 38] (fun x y z wr => ∃ (k : Nat) (u v : Int), x = .int .i64 u ∧ y = .int .i64 v ∧ z = .int .i64 k ∧ k ≤ n ∧ (0 ≤ u ∧ u ≤ 1099511627776 * k) ∧ (0 ≤ v ∧ v ≤ 1099511627776 * k) ∧ Hid (u = sumL (zs.take k) ∧ v = sumL ((linesP L).take k)) ∧ Hid (Below w3.heap.size w3 wr)) (fun _ _ z _ => n - (intOf z).toNat)
  case atStart => exact ⟨0, 0, 0, rfl, rfl, rfl, by omega, by omega, by omega, ⟨by simp [sumL], by simp [sumL]⟩, Below.refl _ _⟩
  case round =>
    obtain ⟨k, u, v, rfl, rfl, rfl, hk, ⟨u0, u1⟩, ⟨v0, v1⟩, hS, hB⟩ := hrel
    by_cases hlt : k < n
    · have hkL : k < L.length := by rw [HN.out]; exact hlt
      have hkz : k < zs.length := by rw [HZl.out]; exact hlt
      have hr1 := HR3.out.below hB.out
      obtain ⟨b, o, rfl, hb, c0, c1, c2, c3', c4, c5, c6, c7, c8⟩ := hr1.at k hkL
      obtain ⟨b2, o2, rfl, hb2, hall, d0⟩ := (HA3.out.below hB.out).at k (by simpa using hkz)
      clear hall
      rw [show (vals .i64 zs)[k]'(by simpa using hkz) = .int .i64 (zs.getD k 0) by rw [vals_get .i64 zs k hkz]; simp [hkz]] at d0
      have hline := fun w => c_rline L[k] w (HMay.out _ (List.getElem_mem hkL))
      obtain ⟨p0, p1, p2⟩ := HZf.out k hlt
      rw [HLg.out k hkL] at p1 p2
      have t1 : u + zs.getD k 0 = sumL (zs.take (k + 1)) := by
        rw [List.take_succ_eq_append_getElem hkz, hS.out.1]
        have : ∀ (xs : List Int) (y : Int), sumL (xs ++ [y]) = sumL xs + y := by
          intro xs y
          induction xs with
          | nil => simp [sumL]
          | cons x r ih => simp only [List.cons_append, sumL, ih]; omega
        rw [this]
        simp [hkz]
      have t2 : v + L[k].line = sumL ((linesP L).take (k + 1)) := by
        have hkl2 : k < (linesP L).length := by rw [HLl.out]; exact hlt
        rw [List.take_succ_eq_append_getElem hkl2, hS.out.2]
        have : ∀ (xs : List Int) (y : Int), sumL (xs ++ [y]) = sumL xs + y := by
          intro xs y
          induction xs with
          | nil => simp [sumL]
          | cons x r ih => simp only [List.cons_append, sumL, ih]; omega
        rw [this]
        simp [linesP]
      have HT := Lib.hid (And.intro t1 t2)
      have hz := hB.out.size
      clear t1 t2 hr1
      generalize L[k] = p at *
      generalize p.line = ln at *
      generalize zs.getD k 0 = zk at *
      have e1 : IntKind.i64.wrap (u + zk) = u + zk := IntWalk.i64_in _ (by omega)
      have e2 : IntKind.i64.wrap (v + ln) = v + ln := IntWalk.i64_in _ (by omega)
      unfold Pol.v polV at hline
      have HL := Lib.hid hline
      clear hline
      go_wp2_with (go_at_call 30; (with_reducible refine (HL.out _).mono ?_); rintro e w5 ⟨rfl, hb5⟩; have HB5 := Lib.hid (hB.out.trans (hb5.mono hz)); clear hb5)
      go_roundw
      case rel => exact ⟨k + 1, u + zk, v + ln, rfl, rfl, by go_num, by omega, by omega, by omega, HT.out, HB5.out⟩
      case measure => simp [intOf]; omega
    · obtain rfl : k = n := by omega
      obtain ⟨e1, e2⟩ := hS.out
      rw [List.take_of_length_le (by rw [HZl.out]; exact Nat.le_refl _), HZs.out] at e1
      rw [List.take_of_length_le (by rw [HLl.out]; exact Nat.le_refl _)] at e2
      rw [← e2] at e1
      subst e1
      have HBr := Lib.hid (HB3.out.trans (hB.out.mono HB3.out.size))
      clear hS e2 hB
      go_wp2
      go_ret
      exact ⟨rfl, HBr.out⟩

theorem l_clwhole (loss : Int) (a : Option Addr) (n c : Nat) (L : List Pol) (w : World) (_hl : (Lit.int .i64 loss).wf = true) (hn : L.length = n) (hm : n ≤ 9223372036854775807) (hr : Pols w a L) :
    Calls Try.prog 10 #[.int .i64 loss, .slice a n c] w fun e w' => e = .returned (.bool true) ∧ Below w.heap.size w w' := by
  cases hf : fewP L
  · exact l_clwhole_few loss a n c L w hn hm hr hf
  · cases hb : shareBad loss L
    · have h12 : n ≤ 12 := by
        unfold fewP at hf
        simp only [Bool.and_eq_true, decide_eq_true_eq] at hf
        omega
      exact l_clwhole_good loss a n c L w hn h12 hr hf hb
    · exact l_clwhole_bad loss a n c L w hn hm hr hf hb

end Go.Proofs.Ytbcmaaoddnaoiaa
