/-
  cost.Change, the reference's Change: their walks.
-/
import Derived.Test.YtdkabldhkgidjaaDoorCost4
namespace Go.Proofs.YtdkabldhkgidjaaDoor
set_option linter.unusedVariables false
set_option linter.unusedSimpArgs false
open Go.RowKit

/-- What is wrong with another term; what it changes. -/
def chE (t s : Int) (L : List Cst) : Int := if splitE t L = 0 then (if splitE s L = 0 then (if 1099511627776 < sumC L then 3 else 0) else splitE s L) else splitE t L
def chN (t s : Int) (L : List Cst) : Int := if chE t s L = 0 then sumC (ofC s true L) - sumC (ofC t true L) else 0

set_option maxRecDepth 100000 in
set_option maxHeartbeats 3200000 in
theorem c_change (t s : Int) (a : Option Addr) (n c : Nat) (L : List Cst) (w : World) (hn : L.length = n) (hm : n ≤ 9223372036854775807) (hr : Rd w a (flat cC L)) (hok : ∀ x ∈ L, CstOk x) (hT : Tab w) :
    Calls Tryd.prog 22 #[.int .i64 t, .int .i64 s, .slice a n c] w fun e w' => e = .returned (.tuple #[.int .i64 (chN t s L), .int .i64 (chE t s L)]) ∧ Below w.heap.size w w' := by
  have HR := Lib.hid hr
  have HT := Lib.hid hT
  obtain ⟨E, hE⟩ : ∃ E, E = chE t s L := ⟨_, rfl⟩
  obtain ⟨N, hN⟩ : ∃ N, N = chN t s L := ⟨_, rfl⟩
  rw [← hE, ← hN]
  unfold chN at hN
  rw [← hE] at hN
  unfold chE at hE
  by_cases h1 : splitE t L = 0
  · rw [if_pos h1] at hE
    have HS1 := fun w hr hT => c_csplit t a n c L w hn hr hok hT h1
    unfold CSplitOk at HS1
    by_cases h2 : splitE s L = 0
    · rw [if_pos h2] at hE
      have HS2 := fun w hr hT => c_csplit s a n c L w hn hr hok hT h2
      unfold CSplitOk at HS2
      obtain ⟨htm, hod, hlm⟩ := splitE_zero h1
      rw [hn] at hlm
      have HSL := Lib.hid (fun w hr => c_costsum a n c L w hn hlm hr (oddC_am hod))
      have hb1 := ofC_len t true L
      have hb2 := ofC_len s true L
      have HSa := fun A c' w hr => c_costsum A (ofC t true L).length c' (ofC t true L) w rfl (by omega) hr (ofC_am hod)
      have HSb := fun A c' w hr => c_costsum A (ofC s true L).length c' (ofC s true L) w rfl (by omega) hr (ofC_am hod)
      have hs1 := sumC_bd (ofC_am (t := t) (b := true) hod)
      have hs2 := sumC_bd (ofC_am (t := s) (b := true) hod)
      have hs3 : 0 ≤ sumC (ofC t true L) ∧ sumC (ofC t true L) ≤ 4503599627370496 := by omega
      have hs4 : 0 ≤ sumC (ofC s true L) ∧ sumC (ofC s true L) ≤ 4503599627370496 := by omega
      obtain ⟨q0, q1⟩ := hs3
      obtain ⟨q2, q3⟩ := hs4
      clear hr hT hn hok h1 h2 htm hod hlm hb1 hb2 hs1 hs2
      generalize hX : ofC t true L = X at *
      generalize hY : ofC s true L = Y at *
      generalize ofC t false L = X2 at *
      generalize ofC s false L = Y2 at *
      clear hX hY
      generalize sumC X = SX at *
      generalize sumC Y = SY at *
      generalize sumC L = SL at *
      have HS1 := Lib.hid HS1
      have HS2 := Lib.hid HS2
      have HSa := Lib.hid HSa
      have HSb := Lib.hid HSb
      have e1 : IntKind.i64.wrap (SY - SX) = SY - SX := IntWalk.i64_in _ (by omega)
      by_cases hbig : 1099511627776 < SL
      · have hE3 : E = 3 := by rw [hE, if_pos hbig]
        have HQ := Lib.hid (show E = 3 ∧ N = 0 from ⟨hE3, by rw [hN, if_neg (by rw [hE3]; decide)]⟩)
        clear hE3 hE hN
        go_enter Tryd.func22, Tryd.ntmps22
        go_wp2_with fail
        refine (HS1.out _ HR.out HT.out).mono ?_
        rintro e w1 ⟨A1, c1, A2, c2, rfl, _, hr1, hb1⟩
        have HB1 := Lib.hid hb1
        have hrx := Lib.hid hr1
        clear hb1 hr1
        go_wp2_with fail
        refine (HS2.out _ (HR.out.below HB1.out) (HT.out.below HB1.out)).mono ?_
        rintro e w2 ⟨B1, d1, B2, d2, rfl, _, hr2, hb2'⟩
        have HB2 := Lib.hid (HB1.out.trans (hb2'.mono HB1.out.size))
        have hry := Lib.hid hr2
        clear hr2
        go_wp2_with fail
        refine (HSL.out _ (HR.out.below HB2.out)).mono ?_
        rintro e w3 ⟨rfl, hb3⟩
        have HB3 := Lib.hid (HB2.out.trans (hb3.mono HB2.out.size))
        go_wp2_with fail
        go_ret2
        rw [HQ.out.1, HQ.out.2]
        exact ⟨rfl, HB3.out⟩
      · have hE3 : E = 0 := by rw [hE, if_neg hbig]
        have HQ := Lib.hid (show E = 0 ∧ N = SY - SX from ⟨hE3, by rw [hN, if_pos hE3]⟩)
        clear hE3 hE hN
        go_enter Tryd.func22, Tryd.ntmps22
        go_wp2_with fail
        refine (HS1.out _ HR.out HT.out).mono ?_
        rintro e w1 ⟨A1, c1, A2, c2, rfl, _, hr1, hb1⟩
        have HB1 := Lib.hid hb1
        have hrx := Lib.hid hr1
        clear hb1 hr1
        go_wp2_with fail
        refine (HS2.out _ (HR.out.below HB1.out) (HT.out.below HB1.out)).mono ?_
        rintro e w2 ⟨B1, d1, B2, d2, rfl, _, hr2, hb2'⟩
        have HB2 := Lib.hid (HB1.out.trans (hb2'.mono HB1.out.size))
        have hry := Lib.hid hr2
        clear hr2
        go_wp2_with fail
        refine (HSL.out _ (HR.out.below HB2.out)).mono ?_
        rintro e w3 ⟨rfl, hb3⟩
        have HB3 := Lib.hid (HB2.out.trans (hb3.mono HB2.out.size))
        go_wp2_with fail
        refine (HSb.out _ _ _ (hry.out.below hb3)).mono ?_
        rintro e w4 ⟨rfl, hb4⟩
        have HB4 := Lib.hid (HB3.out.trans (hb4.mono HB3.out.size))
        have HB24 := Lib.hid (hb3.trans (hb4.mono hb3.size))
        clear hb4
        go_wp2_with fail
        refine (HSa.out _ _ _ ((hrx.out.below hb2').below HB24.out)).mono ?_
        rintro e w5 ⟨rfl, hb5⟩
        have HB5 := Lib.hid (HB4.out.trans (hb5.mono HB4.out.size))
        clear hb5 hb3 hb2'
        go_wp2_with fail
        go_ret2
        rw [HQ.out.1, HQ.out.2]
        exact ⟨rfl, HB5.out⟩
    · rw [if_neg h2] at hE
      have HS2 := fun w hr hT => c_csplit_bad s a n c L w hn hm hr hok hT h2
      rw [← hE] at HS2
      have hE3 : E ≠ 0 := by rw [hE]; exact h2
      have HQ := Lib.hid (show N = 0 from by rw [hN, if_neg hE3])
      have t4 : (E != 0) = true := by simpa using hE3
      have HE3 := Lib.hid hE3
      clear hr hT hn hok h1 h2 hE hN hE3
      generalize ofC t true L = X at *
      generalize ofC t false L = X2 at *
      have HS1 := Lib.hid HS1
      have HS2 := Lib.hid HS2
      go_enter Tryd.func22, Tryd.ntmps22
      go_wp2_with fail
      refine (HS1.out _ HR.out HT.out).mono ?_
      rintro e w1 ⟨A1, c1, A2, c2, rfl, _, hr1, hb1⟩
      have HB1 := Lib.hid hb1
      clear hb1 hr1
      go_wp2_with fail
      refine (HS2.out _ (HR.out.below HB1.out) (HT.out.below HB1.out)).mono ?_
      rintro e w2 ⟨rfl, hb2⟩
      have HB2 := Lib.hid (HB1.out.trans (hb2.mono HB1.out.size))
      clear hb2
      go_wp2_with fail
      go_ret2
      rw [HQ.out]
      exact ⟨rfl, HB2.out⟩
  · rw [if_neg h1] at hE
    have HS1 := fun w hr hT => c_csplit_bad t a n c L w hn hm hr hok hT h1
    rw [← hE] at HS1
    have hE3 : E ≠ 0 := by rw [hE]; exact h1
    have HQ := Lib.hid (show N = 0 from by rw [hN, if_neg hE3])
    have t4 : (E != 0) = true := by simpa using hE3
    have HE3 := Lib.hid hE3
    clear hr hT hn hok h1 hE hN hE3
    have HS1 := Lib.hid HS1
    go_enter Tryd.func22, Tryd.ntmps22
    go_wp2_with fail
    refine (HS1.out _ HR.out HT.out).mono ?_
    rintro e w1 ⟨rfl, hb1⟩
    go_wp2_with fail
    go_ret2
    rw [HQ.out]
    exact ⟨rfl, hb1⟩

set_option maxRecDepth 100000 in
set_option maxHeartbeats 3200000 in
theorem c_rchange (t s : Int) (a : Option Addr) (n c : Nat) (L : List Cst) (w : World) (hn : L.length = n) (hm : n ≤ 9223372036854775807) (hr : Rd w a (flat cC L)) (hok : ∀ x ∈ L, CstOk x) (hT : Tab w) :
    Calls Tryd.prog 23 #[.int .i64 t, .int .i64 s, .slice a n c] w fun e w' => e = .returned (.tuple #[.int .i64 (chN t s L), .int .i64 (chE t s L)]) ∧ Below w.heap.size w w' := by
  have HR := Lib.hid hr
  have HT := Lib.hid hT
  obtain ⟨E, hE⟩ : ∃ E, E = chE t s L := ⟨_, rfl⟩
  obtain ⟨N, hN⟩ : ∃ N, N = chN t s L := ⟨_, rfl⟩
  rw [← hE, ← hN]
  unfold chN at hN
  rw [← hE] at hN
  unfold chE at hE
  have HW1 := fun w hr => c_rcwrong t a n c L w hn hm hr hok
  have HW2 := fun w hr => c_rcwrong s a n c L w hn hm hr hok
  by_cases h1 : splitE t L = 0
  · rw [if_pos h1] at hE
    rw [h1] at HW1
    by_cases h2 : splitE s L = 0
    · rw [if_pos h2] at hE
      rw [h2] at HW2
      obtain ⟨htm, hod, hlm⟩ := splitE_zero h1
      obtain ⟨hsm, -, -⟩ := splitE_zero h2
      rw [hn] at hlm
      have HSL := Lib.hid (fun w hr => c_rcsum a n c L w hn hlm hr (oddC_am hod))
      have HO1 := fun w hr => c_rcof t true a n c L w hn hlm hr htm
      have HO2 := fun w hr => c_rcof s true a n c L w hn hlm hr hsm
      unfold OfOk at HO1 HO2
      have hb1 := ofC_len t true L
      have hb2 := ofC_len s true L
      have HSa := fun A c' w hr => c_rcsum A (ofC t true L).length c' (ofC t true L) w rfl (by omega) hr (ofC_am hod)
      have HSb := fun A c' w hr => c_rcsum A (ofC s true L).length c' (ofC s true L) w rfl (by omega) hr (ofC_am hod)
      have hs1 := sumC_bd (ofC_am (t := t) (b := true) hod)
      have hs2 := sumC_bd (ofC_am (t := s) (b := true) hod)
      have hs3 : 0 ≤ sumC (ofC t true L) ∧ sumC (ofC t true L) ≤ 4503599627370496 := by omega
      have hs4 : 0 ≤ sumC (ofC s true L) ∧ sumC (ofC s true L) ≤ 4503599627370496 := by omega
      obtain ⟨q0, q1⟩ := hs3
      obtain ⟨q2, q3⟩ := hs4
      clear hr hT hn hok h1 h2 htm hsm hod hlm hb1 hb2 hs1 hs2
      generalize hX : ofC t true L = X at *
      generalize hY : ofC s true L = Y at *
      clear hX hY
      generalize sumC X = SX at *
      generalize sumC Y = SY at *
      generalize sumC L = SL at *
      have HW1 := Lib.hid HW1
      have HW2 := Lib.hid HW2
      have HO1 := Lib.hid HO1
      have HO2 := Lib.hid HO2
      have HSa := Lib.hid HSa
      have HSb := Lib.hid HSb
      have e1 : IntKind.i64.wrap (SY - SX) = SY - SX := IntWalk.i64_in _ (by omega)
      by_cases hbig : 1099511627776 < SL
      · have hE3 : E = 3 := by rw [hE, if_pos hbig]
        have HQ := Lib.hid (show E = 3 ∧ N = 0 from ⟨hE3, by rw [hN, if_neg (by rw [hE3]; decide)]⟩)
        clear hE3 hE hN
        go_enter Tryd.func23, Tryd.ntmps23
        go_wp2_with fail
        refine (HW1.out _ HR.out).mono ?_
        rintro e w1 ⟨rfl, hb1⟩
        have HB1 := Lib.hid hb1
        clear hb1
        go_wp2_with fail
        refine (HW2.out _ (HR.out.below HB1.out)).mono ?_
        rintro e w2 ⟨rfl, hb2⟩
        have HB2 := Lib.hid (HB1.out.trans (hb2.mono HB1.out.size))
        clear hb2
        go_wp2_with fail
        refine (HSL.out _ (HR.out.below HB2.out)).mono ?_
        rintro e w3 ⟨rfl, rfl⟩
        go_wp2_with fail
        go_ret2
        rw [HQ.out.1, HQ.out.2]
        exact ⟨rfl, HB2.out⟩
      · have hE3 : E = 0 := by rw [hE, if_neg hbig]
        have HQ := Lib.hid (show E = 0 ∧ N = SY - SX from ⟨hE3, by rw [hN, if_pos hE3]⟩)
        clear hE3 hE hN
        go_enter Tryd.func23, Tryd.ntmps23
        go_wp2_with fail
        refine (HW1.out _ HR.out).mono ?_
        rintro e w1 ⟨rfl, hb1⟩
        have HB1 := Lib.hid hb1
        clear hb1
        go_wp2_with fail
        refine (HW2.out _ (HR.out.below HB1.out)).mono ?_
        rintro e w2 ⟨rfl, hb2⟩
        have HB2 := Lib.hid (HB1.out.trans (hb2.mono HB1.out.size))
        clear hb2
        go_wp2_with fail
        refine (HSL.out _ (HR.out.below HB2.out)).mono ?_
        rintro e w3 ⟨rfl, rfl⟩
        go_wp2_with fail
        refine (HO2.out _ (HR.out.below HB2.out)).mono ?_
        rintro e w4 ⟨A4, c4, rfl, hr4, hb4⟩
        have HB4 := Lib.hid (HB2.out.trans (hb4.mono HB2.out.size))
        have HR4 := Lib.hid hr4
        clear hb4 hr4
        go_wp2_with fail
        refine (HSb.out _ _ _ HR4.out).mono ?_
        rintro e w5 ⟨rfl, rfl⟩
        go_wp2_with fail
        refine (HO1.out _ (HR.out.below HB4.out)).mono ?_
        rintro e w6 ⟨A6, c6, rfl, hr6, hb6⟩
        have HB6 := Lib.hid (HB4.out.trans (hb6.mono HB4.out.size))
        have HR6 := Lib.hid hr6
        clear hb6 hr6
        go_wp2_with fail
        refine (HSa.out _ _ _ HR6.out).mono ?_
        rintro e w7 ⟨rfl, rfl⟩
        go_wp2_with fail
        go_ret2
        rw [HQ.out.1, HQ.out.2]
        exact ⟨rfl, HB6.out⟩
    · rw [if_neg h2] at hE
      rw [← hE] at HW2
      have hE3 : E ≠ 0 := by rw [hE]; exact h2
      have HQ := Lib.hid (show N = 0 from by rw [hN, if_neg hE3])
      have t4 : (E != 0) = true := by simpa using hE3
      have HE3 := Lib.hid hE3
      clear hr hT hn hok h1 h2 hE hN hE3
      have HW1 := Lib.hid HW1
      have HW2 := Lib.hid HW2
      go_enter Tryd.func23, Tryd.ntmps23
      go_wp2_with fail
      refine (HW1.out _ HR.out).mono ?_
      rintro e w1 ⟨rfl, hb1⟩
      have HB1 := Lib.hid hb1
      clear hb1
      go_wp2_with fail
      refine (HW2.out _ (HR.out.below HB1.out)).mono ?_
      rintro e w2 ⟨rfl, hb2⟩
      have HB2 := Lib.hid (HB1.out.trans (hb2.mono HB1.out.size))
      clear hb2
      go_wp2_with fail
      go_ret2
      rw [HQ.out]
      exact ⟨rfl, HB2.out⟩
  · rw [if_neg h1] at hE
    rw [← hE] at HW1
    have hE3 : E ≠ 0 := by rw [hE]; exact h1
    have HQ := Lib.hid (show N = 0 from by rw [hN, if_neg hE3])
    have t4 : (E != 0) = true := by simpa using hE3
    have HE3 := Lib.hid hE3
    clear hr hT hn hok h1 hE hN hE3 HW2
    have HW1 := Lib.hid HW1
    go_enter Tryd.func23, Tryd.ntmps23
    go_wp2_with fail
    refine (HW1.out _ HR.out).mono ?_
    rintro e w1 ⟨rfl, hb1⟩
    go_wp2_with fail
    go_ret2
    rw [HQ.out]
    exact ⟨rfl, hb1⟩

theorem chN_back (x y : Int) (L : List Cst) : chN y x L = - chN x y L := by
  unfold chN
  have e : chE y x L = 0 ↔ chE x y L = 0 := by
    unfold chE
    by_cases h1 : splitE x L = 0 <;> by_cases h2 : splitE y L = 0 <;> simp [h1, h2]
  by_cases h : chE x y L = 0
  · rw [if_pos h, if_pos (e.2 h)]; omega
  · rw [if_neg h, if_neg (fun h2 => h (e.1 h2))]; rfl
theorem chE_facts {x y : Int} {L : List Cst} (h : chE x y L = 0) : splitE x L = 0 ∧ splitE y L = 0 ∧ sumC L ≤ 1099511627776 := by
  unfold chE at h
  by_cases h1 : splitE x L = 0
  · rw [if_pos h1] at h
    by_cases h2 : splitE y L = 0
    · rw [if_pos h2] at h
      by_cases h3 : 1099511627776 < sumC L
      · rw [if_pos h3] at h; cases h
      · exact ⟨h1, h2, by omega⟩
    · rw [if_neg h2] at h; exact absurd h h2
  · rw [if_neg h1] at h; exact absurd h h1
theorem chN_via {x y z : Int} {L : List Cst} (h1 : chE x y L = 0) (h2 : chE x z L = 0) : chN x z L + chN z y L = chN x y L := by
  obtain ⟨a1, a2, a3⟩ := chE_facts h1
  obtain ⟨b1, b2, b3⟩ := chE_facts h2
  have h3 : chE z y L = 0 := by unfold chE; rw [if_pos b2, if_pos a2, if_neg (by omega)]
  unfold chN
  rw [if_pos h1, if_pos h2, if_pos h3]
  omega
theorem chN_bd (x y : Int) (L : List Cst) : -4503599627370496 ≤ chN x y L ∧ chN x y L ≤ 4503599627370496 := by
  unfold chN
  by_cases h : chE x y L = 0
  · rw [if_pos h]
    obtain ⟨a1, a2, a3⟩ := chE_facts h
    obtain ⟨-, hod, hl⟩ := splitE_zero a1
    have h1 := sumC_bd (ofC_am (t := x) (b := true) hod)
    have h2 := sumC_bd (ofC_am (t := y) (b := true) hod)
    have l1 := ofC_len x true L
    have l2 := ofC_len y true L
    omega
  · rw [if_neg h]; omega
theorem termB_zero : termB 0 = true := by decide
theorem split_zero_eq (L : List Cst) : splitE 0 L = wrongC L := by unfold splitE; rw [if_pos termB_zero]
theorem ofC_both (t : Int) (L : List Cst) : sumC (ofC t false L) + sumC (ofC t true L) = sumC L ∧ (ofC t false L).length + (ofC t true L).length = L.length := by
  induction L with
  | nil => exact ⟨rfl, rfl⟩
  | cons x r ih =>
    unfold ofC at ih ⊢
    cases hb : buyB t x
    · rw [List.filter_cons_of_pos (by rw [hb]; decide), List.filter_cons_of_neg (by rw [hb]; decide)]
      simp only [sumC, List.length_cons]
      omega
    · rw [List.filter_cons_of_neg (by rw [hb]; decide), List.filter_cons_of_pos (by rw [hb]; decide)]
      simp only [sumC, List.length_cons]
      omega
theorem wrong_of {t : Int} {b : Bool} {L : List Cst} (h : wrongC L = 0) : wrongC (ofC t b L) = 0 := by
  obtain ⟨h1, h2⟩ := wrongC_zero h
  have h3 : oddC (ofC t b L) = false := by
    unfold oddC
    rw [List.any_eq_false]
    intro x hx
    simpa using oddC_false h1 x (List.mem_filter.1 hx).1
  unfold wrongC
  rw [h3, if_neg (by decide), if_neg (by have := ofC_len t b L; omega)]
theorem sums_of {t : Int} {b : Bool} {L : List Cst} (h : sumsB L = true) : sumsB (ofC t b L) = true ∧ 0 ≤ sumC (ofC t b L) ∧ sumC (ofC t b L) ≤ 1099511627776 := by
  unfold sumsB at h
  rw [Bool.and_eq_true, decide_eq_true_eq, decide_eq_true_eq] at h
  obtain ⟨h1, h2⟩ := h
  obtain ⟨hod, -⟩ := wrongC_zero h1
  have hb := (ofC_both t L).1
  have s1 := (sumC_bd (ofC_am (t := t) (b := true) hod)).1
  have s2 := (sumC_bd (ofC_am (t := t) (b := false) hod)).1
  have hle : 0 ≤ sumC (ofC t b L) ∧ sumC (ofC t b L) ≤ 1099511627776 := by cases b <;> omega
  refine ⟨?_, hle⟩
  unfold sumsB
  rw [decide_eq_true (wrong_of h1), decide_eq_true hle.2]
  rfl
theorem ofC_ok {t : Int} {b : Bool} {L : List Cst} (h : ∀ x ∈ L, CstOk x) : ∀ x ∈ ofC t b L, CstOk x := fun x hx => h x (List.mem_filter.1 hx).1

theorem ofC_idem (t : Int) (L : List Cst) : ofC t true (ofC t true L) = ofC t true L := by
  unfold ofC
  rw [List.filter_filter]
  simp
theorem buyS_idem (o : Ord) (L : List Cst) : buyS o (ofC o.term true L) = buyS o L := by
  unfold buyS
  rw [ofC_idem]
theorem land_idem {o : Ord} {L : List Cst} (h : landE o L = 0) : landE o (ofC o.term true L) = 0 ∧ landT o (ofC o.term true L) = landT o L ∧ landC o (ofC o.term true L) = landC o L := by
  have h1 : totE o = 0 := by
    unfold landE at h
    by_cases h1 : totE o = 0
    · exact h1
    · rw [if_neg h1] at h; exact h
  have h2 : splitE o.term L = 0 := by
    unfold landE at h
    rw [if_pos h1] at h
    by_cases h2 : splitE o.term L = 0
    · exact h2
    · rw [if_neg h2] at h; exact h
  have h3 : splitE o.term (ofC o.term true L) = 0 := by
    unfold splitE at h2 ⊢
    by_cases ht : termB o.term = true
    · rw [if_pos ht] at h2 ⊢
      exact wrong_of h2
    · rw [if_neg ht] at h2; cases h2
  have h4 : landE o (ofC o.term true L) = 0 := by
    unfold landE at h ⊢
    rw [if_pos h1, if_pos h2] at h
    rw [if_pos h1, if_pos h3, buyS_idem]
    exact h
  refine ⟨h4, ?_, ?_⟩
  · unfold landT; rw [if_pos h, if_pos h4]
  · unfold landC; rw [if_pos h, if_pos h4, buyS_idem]
theorem ofC_less {t s : Int} {L : List Cst} (hle : tcost t ≤ tcost s) (h : ∀ x ∈ L, 0 ≤ x.am ∧ x.am ≤ 1099511627776) : sumC (ofC s true L) ≤ sumC (ofC t true L) := by
  induction L with
  | nil => exact Int.le_refl _
  | cons x r ih =>
    have hr := ih fun y hy => h y (List.mem_cons_of_mem _ hy)
    have hx := h x (by simp)
    unfold ofC at hr ⊢
    cases h1 : buyB s x
    · rw [List.filter_cons_of_neg (by rw [h1]; decide)]
      cases h2 : buyB t x
      · rw [List.filter_cons_of_neg (by rw [h2]; decide)]; exact hr
      · rw [List.filter_cons_of_pos (by rw [h2]; decide)]; simp only [sumC]; omega
    · have h2 : buyB t x = true := by
        unfold buyB at h1 ⊢
        simp only [decide_eq_true_eq] at h1 ⊢
        omega
      rw [List.filter_cons_of_pos (by rw [h1]; decide), List.filter_cons_of_pos (by rw [h2]; decide)]
      simp only [sumC]; omega
theorem chN_neg {t s : Int} {L : List Cst} (h : chE t s L = 0) (hle : tcost t ≤ tcost s) : chN t s L ≤ 0 := by
  unfold chN
  rw [if_pos h]
  have := ofC_less hle (oddC_am (splitE_zero (chE_facts h).1).2.1)
  omega
/-- The order by another term. -/
def Ord.by (o : Ord) (t : Int) : Ord := ⟨o.nu, o.se, o.bu, o.cu, o.fr, o.tt, t, o.la, o.ln, o.lc, o.L⟩
theorem OrdOk.by {w : World} {o : Ord} (h : OrdOk w o) (t : Int) : OrdOk w (o.by t) := ⟨h.h0, h.h1, h.h2, h.h3, h.h4, h.h5, h.hl, h.hm, h.hc, h.hr, h.hs⟩
theorem land_by {o : Ord} {t : Int} {L : List Cst} (h1 : landE o L = 0) (h2 : landE (o.by t) L = 0) (h3 : chE o.term t L = 0) : landT (o.by t) L + landC (o.by t) L = landT o L + landC o L + chN o.term t L := by
  have a1 : totE o = 0 := by
    unfold landE at h1
    by_cases h : totE o = 0
    · exact h
    · rw [if_neg h] at h1; exact h1
  have a2 : totE (o.by t) = 0 := by
    unfold landE at h2
    by_cases h : totE (o.by t) = 0
    · exact h
    · rw [if_neg h] at h2; exact h2
  unfold landT landC chN buyS
  rw [if_pos h1, if_pos h1, if_pos h2, if_pos h2, if_pos h3, (totE_zero a1).2.2.1, (totE_zero a2).2.2.1]
  show sumW o.L + sumC (ofC t true L) = _
  omega

end Go.Proofs.YtdkabldhkgidjaaDoor
