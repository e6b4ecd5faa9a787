/-
  The laws CostSplits, CostSums, CostChanges: their walks.
-/
import Derived.Test.YtdkabldhkgidjaaDoorAwake20
import Derived.Test.YtdkabldhkgidjaaDoorChange
namespace Go.Proofs.YtdkabldhkgidjaaDoor
set_option linter.unusedVariables false
set_option linter.unusedSimpArgs false
open Go.RowKit

theorem Rd.refl_of {w : World} {a : Option Addr} {xs : List Value} (h : Rd w a xs) : Rd w a xs := h

set_option maxRecDepth 100000 in
set_option maxHeartbeats 3200000 in
theorem l_csplits_long (t : Int) (a : Option Addr) (n c : Nat) (L : List Cst) (w : World) (hn : L.length = n) (hm : n ≤ 9223372036854775807) (hr : Rd w a (flat cC L)) (hok : ∀ x ∈ L, CstOk x) (hT : Tab w) (hlong : 60 < n) :
    Calls Tryd.prog 3 #[.int .i64 t, .slice a n c] w fun e w' => e = .returned (.bool true) ∧ Below w.heap.size w w' := by
  have HR := Lib.hid hr
  have HT := Lib.hid hT
  clear hr hT hok hn
  go_enter Tryd.func3, Tryd.ntmps3
  go_wp2_with fail
  refine (c_awake20 _ HT.out).mono ?_
  rintro e w1 ⟨rfl, hbx⟩
  have HB1 := Lib.hid (hbx)
  clear hbx
  go_wp2_with fail
  refine (c_awake20 _ (HT.out.below HB1.out)).mono ?_
  rintro e w2 ⟨rfl, hbx⟩
  have HB2 := Lib.hid (HB1.out.trans (hbx.mono HB1.out.size))
  clear hbx
  go_wp2_with fail
  go_ret
  exact ⟨rfl, HB2.out⟩
theorem one_flat (L : List Cst) : ∀ u ∈ flat cC L, u.oneCell' = true := by
  induction L with
  | nil => intro u hu; cases hu
  | cons x r ih =>
    intro u hu
    rcases List.mem_append.1 hu with h | h
    · exact one_cost x u h
    · exact ih u h

set_option maxRecDepth 100000 in
set_option maxHeartbeats 3200000 in
theorem l_csplits_bad (t : Int) (a : Option Addr) (n c : Nat) (L : List Cst) (w : World) (hn : L.length = n) (hm : n ≤ 9223372036854775807) (hr : Rd w a (flat cC L)) (hok : ∀ x ∈ L, CstOk x) (hT : Tab w) (hs : n ≤ 60) (he : splitE t L ≠ 0) :
    Calls Tryd.prog 3 #[.int .i64 t, .slice a n c] w fun e w' => e = .returned (.bool true) ∧ Below w.heap.size w w' := by
  obtain ⟨i0, hi, hz0, hz1, hz2⟩ := info_parts info_cost
  have HI := Lib.hid hi
  have HZ0 := Lib.hid hz0
  have HZ1 := Lib.hid hz1
  have HZ2 := Lib.hid hz2
  have HN := Lib.hid hn
  have HOne := Lib.hid (one_flat L)
  have HSp := fun A c' w hr hT => c_csplit_bad t A n c' L w hn hm hr hok hT he
  have HW := fun w hr => c_rcwrong t a n c L w hn hm hr hok
  have HSm := Lib.hid (fun A c' w ha hb => c_rcsame A a n c' c L w hn hm ha hb)
  generalize splitE t L = E at *
  have t4 : (E != 0) = true := by simpa using he
  have t5 : (E == 0) = false := by simpa using he
  have HE := Lib.hid he
  have HSp := Lib.hid HSp
  have HW := Lib.hid HW
  have HR := Lib.hid hr
  have HT := Lib.hid hT
  clear hr hT hok hn he hi hz0 hz1 hz2
  go_enter Tryd.func3, Tryd.ntmps3
  go_wp2_with fail
  refine (c_awake20 _ HT.out).mono ?_
  rintro e w1 ⟨rfl, hbx⟩
  have HB1 := Lib.hid (hbx)
  clear hbx
  go_wp2_with (at_builtin; refine wpList_appS _ rfl (.tmp 17) (.tmp 18) _ rfl 3 (by omega) w1.heap.size 55 i0 _ 32 Tryd.underlying22 HI.out HZ0.out HZ1.out HZ2.out rfl _ 0 0 [] rfl (OwnS.emptyC 3 _ _ _ (Nat.le_refl _)) a n c (flat cC L) rfl (by rw [flat_length cC_length, HN.out]) ((HR.out.below HB1.out).alloc _) HOne.out (by unfold maxLen; omega) (by omega) (by simp) ?_; intro A' c' w2 hown hg2 hb2; have HB2 := Lib.hid ((HB1.out.alloc HB1.out.size (.cells #[] 55)).trans (hb2.mono HB1.out.size)); have HOw := Lib.hid hown.rd; clear hown hg2 hb2)
  go_wp2_with fail
  refine (HSp.out _ _ _ HOw.out (HT.out.below HB2.out)).mono ?_
  rintro e w3 ⟨rfl, hbx⟩
  have HB3 := Lib.hid (HB2.out.trans (hbx.mono HB2.out.size))
  have HOw3 := Lib.hid (HOw.out.below hbx)
  clear hbx
  go_wp2_with fail
  refine (HSm.out _ _ _ HOw3.out (HR.out.below HB3.out)).mono ?_
  rintro e w4 ⟨rfl, hbx⟩
  have HB4 := Lib.hid (HB3.out.trans (hbx.mono HB3.out.size))
  clear hbx
  go_wp2_with fail
  refine (HW.out _ (HR.out.below HB4.out)).mono ?_
  rintro e w5 ⟨rfl, hbx⟩
  have HB5 := Lib.hid (HB4.out.trans (hbx.mono HB4.out.size))
  clear hbx
  go_wp2_with fail
  go_ret
  exact ⟨rfl, HB5.out⟩

set_option maxRecDepth 100000 in
set_option maxHeartbeats 3200000 in
theorem l_csplits_ok (t : Int) (a : Option Addr) (n c : Nat) (L : List Cst) (w : World) (hn : L.length = n) (hm : n ≤ 9223372036854775807) (hr : Rd w a (flat cC L)) (hok : ∀ x ∈ L, CstOk x) (hT : Tab w) (hs : n ≤ 60) (he : splitE t L = 0) :
    Calls Tryd.prog 3 #[.int .i64 t, .slice a n c] w fun e w' => e = .returned (.bool true) ∧ Below w.heap.size w w' := by
  obtain ⟨i0, hi, hz0, hz1, hz2⟩ := info_parts info_cost
  have HI := Lib.hid hi
  have HZ0 := Lib.hid hz0
  have HZ1 := Lib.hid hz1
  have HZ2 := Lib.hid hz2
  have HN := Lib.hid hn
  have HOne := Lib.hid (one_flat L)
  have HSp := fun A c' w hr hT => c_csplit t A n c' L w hn hr hok hT he
  unfold CSplitOk at HSp
  have HW := fun w hr => c_rcwrong t a n c L w hn hm hr hok
  rw [he] at HW
  obtain ⟨htm, hod, hlm⟩ := splitE_zero he
  have HSm := Lib.hid (fun A c' w ha hb => c_rcsame A a n c' c L w hn hm ha hb)
  have HO1 := fun b w hr => c_rcof t b a n c L w hn (by omega) hr htm
  unfold OfOk at HO1
  have hl1 := ofC_len t false L
  have hl2 := ofC_len t true L
  have HS1 := fun A c1 B c2 w ha hb => c_rcsame A B (ofC t false L).length c1 c2 (ofC t false L) w rfl (by omega) ha hb
  have HS2 := fun A c1 B c2 w ha hb => c_rcsame A B (ofC t true L).length c1 c2 (ofC t true L) w rfl (by omega) ha hb
  have HOf := HO1 false
  have HOt := HO1 true
  have hl3 : (ofC t false L).length ≤ 60 := by omega
  have hl4 : (ofC t true L).length ≤ 60 := by omega
  clear HO1 hl1 hl2 htm hod hlm he
  have HR := Lib.hid hr
  have HT := Lib.hid hT
  clear hr hT hok hn hi hz0 hz1 hz2
  generalize ofC t false L = X at *
  generalize ofC t true L = Y at *
  have HSp := Lib.hid HSp
  have HW := Lib.hid HW
  have HOf := Lib.hid HOf
  have HOt := Lib.hid HOt
  have HS1 := Lib.hid HS1
  have HS2 := Lib.hid HS2
  go_enter Tryd.func3, Tryd.ntmps3
  go_wp2_with fail
  refine (c_awake20 _ HT.out).mono ?_
  rintro e w1 ⟨rfl, hbx⟩
  have HB1 := Lib.hid (hbx)
  clear hbx
  go_wp2_with (at_builtin; refine wpList_appS _ rfl (.tmp 17) (.tmp 18) _ rfl 3 (by omega) w1.heap.size 55 i0 _ 32 Tryd.underlying22 HI.out HZ0.out HZ1.out HZ2.out rfl _ 0 0 [] rfl (OwnS.emptyC 3 _ _ _ (Nat.le_refl _)) a n c (flat cC L) rfl (by rw [flat_length cC_length, HN.out]) ((HR.out.below HB1.out).alloc _) HOne.out (by unfold maxLen; omega) (by omega) (by simp) ?_; intro A' c' w2 hown hg2 hb2; have HB2 := Lib.hid ((HB1.out.alloc HB1.out.size (.cells #[] 55)).trans (hb2.mono HB1.out.size)); have HOw := Lib.hid hown.rd; clear hown hg2 hb2)
  go_wp2_with fail
  refine (HSp.out _ _ _ HOw.out (HT.out.below HB2.out)).mono ?_
  rintro e w3 ⟨A1, c1, A2, c2, rfl, hr1, hr2, hbx⟩
  have HB3 := Lib.hid (HB2.out.trans (hbx.mono HB2.out.size))
  have HOw3 := Lib.hid (HOw.out.below hbx)
  have HP1 := Lib.hid hr1
  have HP2 := Lib.hid hr2
  clear hr1 hr2
  clear hbx
  have hz3 := HB3.out.size
  go_wp2_with fail
  refine (HSm.out _ _ _ HOw3.out (HR.out.below HB3.out)).mono ?_
  rintro e w4 ⟨rfl, hbx⟩
  have HB4 := Lib.hid (HB3.out.trans (hbx.mono HB3.out.size))
  have HP1 := Lib.hid (HP1.out.below hbx)
  have HP2 := Lib.hid (HP2.out.below hbx)
  clear hbx
  go_wp2_with fail
  refine (HW.out _ (HR.out.below HB4.out)).mono ?_
  rintro e w5 ⟨rfl, hbx⟩
  have HB5 := Lib.hid (HB4.out.trans (hbx.mono HB4.out.size))
  have HP1 := Lib.hid (HP1.out.below hbx)
  have HP2 := Lib.hid (HP2.out.below hbx)
  clear hbx
  go_wp2_with fail
  refine (HOf.out _ (HR.out.below HB5.out)).mono ?_
  rintro e w6 ⟨A6, c6, rfl, hr6, hbx⟩
  have HB6 := Lib.hid (HB5.out.trans (hbx.mono HB5.out.size))
  have HP1 := Lib.hid (HP1.out.below hbx)
  have HP2 := Lib.hid (HP2.out.below hbx)
  have HQ6 := Lib.hid hr6
  clear hr6
  clear hbx
  go_wp2_with fail
  refine (HS1.out _ _ _ _ _ HP1.out HQ6.out).mono ?_
  rintro e w7 ⟨rfl, hbx⟩
  have HB7 := Lib.hid (HB6.out.trans (hbx.mono HB6.out.size))
  have HP2 := Lib.hid (HP2.out.below hbx)
  clear hbx
  go_wp2_with fail
  refine (HOt.out _ (HR.out.below HB7.out)).mono ?_
  rintro e w8 ⟨A8, c8, rfl, hr8, hbx⟩
  have HB8 := Lib.hid (HB7.out.trans (hbx.mono HB7.out.size))
  have HP2 := Lib.hid (HP2.out.below hbx)
  have HQ8 := Lib.hid hr8
  clear hr8
  clear hbx
  go_wp2_with fail
  refine (HS2.out _ _ _ _ _ HP2.out HQ8.out).mono ?_
  rintro e w9 ⟨rfl, hbx⟩
  have HB9 := Lib.hid (HB8.out.trans (hbx.mono HB8.out.size))
  clear hbx
  go_wp2_with fail
  go_ret
  exact ⟨rfl, HB9.out⟩

theorem l_csplits (t : Int) (a : Option Addr) (n c : Nat) (L : List Cst) (w : World) (_h1 : (Lit.int .i64 t).wf = true) (hn : L.length = n) (hm : n ≤ 9223372036854775807) (hr : Rd w a (flat cC L)) (hok : ∀ x ∈ L, CstOk x) (hT : Tab w) :
    Calls Tryd.prog 3 #[.int .i64 t, .slice a n c] w fun e w' => e = .returned (.bool true) ∧ Below w.heap.size w w' := by
  by_cases hs : n ≤ 60
  · by_cases he : splitE t L = 0
    · exact l_csplits_ok t a n c L w hn hm hr hok hT hs he
    · exact l_csplits_bad t a n c L w hn hm hr hok hT hs he
  · exact l_csplits_long t a n c L w hn hm hr hok hT (by omega)

set_option maxRecDepth 100000 in
set_option maxHeartbeats 3200000 in
theorem l_cchanges_long (x y z : Int) (a : Option Addr) (n c : Nat) (L : List Cst) (w : World) (hn : L.length = n) (hm : n ≤ 9223372036854775807) (hr : Rd w a (flat cC L)) (hok : ∀ x ∈ L, CstOk x) (hT : Tab w) (hlong : 60 < n) :
    Calls Tryd.prog 8 #[.int .i64 x, .int .i64 y, .int .i64 z, .slice a n c] w fun e w' => e = .returned (.bool true) ∧ Below w.heap.size w w' := by
  have HR := Lib.hid hr
  have HT := Lib.hid hT
  clear hr hT hok hn
  go_enter Tryd.func8, Tryd.ntmps8
  go_wp2_with fail
  refine (c_awake20 _ HT.out).mono ?_
  rintro e w1 ⟨rfl, hbx⟩
  have HB1 := Lib.hid (hbx)
  clear hbx
  go_wp2_with fail
  refine (c_awake20 _ (HT.out.below HB1.out)).mono ?_
  rintro e w2 ⟨rfl, hbx⟩
  have HB2 := Lib.hid (HB1.out.trans (hbx.mono HB1.out.size))
  clear hbx
  go_wp2_with fail
  go_ret
  exact ⟨rfl, HB2.out⟩
theorem chN_back (x y : Int) (L : List Cst) : chN y x L = - chN x y L := by
  unfold chN
  have e : chE y x L = 0 ↔ chE x y L = 0 := by
    unfold chE
    by_cases h1 : splitE x L = 0 <;> by_cases h2 : splitE y L = 0 <;> simp [h1, h2]
  by_cases h : chE x y L = 0
  · rw [if_pos h, if_pos (e.2 h)]; omega
  · rw [if_neg h, if_neg (fun h2 => h (e.1 h2))]; rfl
theorem chE_facts {x y : Int} {L : List Cst} (h : chE x y L = 0) : splitE x L = 0 ∧ splitE y L = 0 ∧ sumC L ≤ 1099511627776 := by
  unfold chE at h
  by_cases h1 : splitE x L = 0
  · rw [if_pos h1] at h
    by_cases h2 : splitE y L = 0
    · rw [if_pos h2] at h
      by_cases h3 : 1099511627776 < sumC L
      · rw [if_pos h3] at h; cases h
      · exact ⟨h1, h2, by omega⟩
    · rw [if_neg h2] at h; exact absurd h h2
  · rw [if_neg h1] at h; exact absurd h h1
theorem chN_via {x y z : Int} {L : List Cst} (h1 : chE x y L = 0) (h2 : chE x z L = 0) : chN x z L + chN z y L = chN x y L := by
  obtain ⟨a1, a2, a3⟩ := chE_facts h1
  obtain ⟨b1, b2, b3⟩ := chE_facts h2
  have h3 : chE z y L = 0 := by unfold chE; rw [if_pos b2, if_pos a2, if_neg (by omega)]
  unfold chN
  rw [if_pos h1, if_pos h2, if_pos h3]
  omega
theorem chN_bd (x y : Int) (L : List Cst) : -4503599627370496 ≤ chN x y L ∧ chN x y L ≤ 4503599627370496 := by
  unfold chN
  by_cases h : chE x y L = 0
  · rw [if_pos h]
    obtain ⟨a1, a2, a3⟩ := chE_facts h
    obtain ⟨-, hod, hl⟩ := splitE_zero a1
    have h1 := sumC_bd (ofC_am (t := x) (b := true) hod)
    have h2 := sumC_bd (ofC_am (t := y) (b := true) hod)
    have l1 := ofC_len x true L
    have l2 := ofC_len y true L
    omega
  · rw [if_neg h]; omega

set_option maxRecDepth 100000 in
set_option maxHeartbeats 3200000 in
theorem l_cchanges_ok (x y z : Int) (a : Option Addr) (n c : Nat) (L : List Cst) (w : World) (hn : L.length = n) (hm : n ≤ 9223372036854775807) (hr : Rd w a (flat cC L)) (hok : ∀ x ∈ L, CstOk x) (hT : Tab w) (hs : n ≤ 60) :
    Calls Tryd.prog 8 #[.int .i64 x, .int .i64 y, .int .i64 z, .slice a n c] w fun e w' => e = .returned (.bool true) ∧ Below w.heap.size w w' := by
  have HC1 := fun w hr hT => c_change x y a n c L w hn hm hr hok hT
  have HC2 := fun w hr hT => c_change y x a n c L w hn hm hr hok hT
  have HC3 := fun w hr hT => c_change x z a n c L w hn hm hr hok hT
  have HC4 := fun w hr hT => c_change z y a n c L w hn hm hr hok hT
  have HD := fun w hr hT => c_rchange x y a n c L w hn hm hr hok hT
  have hbk := chN_back x y L
  have hvia : chE x y L = 0 → chE x z L = 0 → chN x z L + chN z y L = chN x y L := fun h1 h2 => chN_via h1 h2
  have b1 := chN_bd x y L
  have b3 := chN_bd x z L
  have b4 := chN_bd z y L
  have HR := Lib.hid hr
  have HT := Lib.hid hT
  clear hr hT hok hn
  rw [hbk] at HC2
  clear hbk
  generalize chN x y L = N1 at *
  generalize chE x y L = E1 at *
  generalize chE y x L = E2 at *
  generalize chN x z L = N3 at *
  generalize chE x z L = E3 at *
  generalize chN z y L = N4 at *
  generalize chE z y L = E4 at *
  obtain ⟨b1a, b1b⟩ := b1
  obtain ⟨b3a, b3b⟩ := b3
  obtain ⟨b4a, b4b⟩ := b4
  have w1' : IntKind.i64.wrap (-N1) = -N1 := IntWalk.i64_in _ (by omega)
  have w2' : IntKind.i64.wrap (N3 + N4) = N3 + N4 := IntWalk.i64_in _ (by omega)
  have HC1 := Lib.hid HC1
  have HC2 := Lib.hid HC2
  have HC3 := Lib.hid HC3
  have HC4 := Lib.hid HC4
  have HD := Lib.hid HD
  have HVia := Lib.hid hvia
  clear hvia
  by_cases h1 : E1 = 0
  · by_cases h2 : E3 = 0
    · have h3 : N3 + N4 = N1 := HVia.out h1 h2
      subst h1 h2
      have H3 := Lib.hid h3
      have t9 : (N3 + N4 == N1) = true := by simpa using h3
      clear h3
      go_enter Tryd.func8, Tryd.ntmps8
      go_wp2_with fail
      refine (c_awake20 _ HT.out).mono ?_
      rintro e w1 ⟨rfl, hbx⟩
      have HB1 := Lib.hid (hbx)
      clear hbx
      go_wp2_with fail
      refine (HC1.out _ (HR.out.below HB1.out) (HT.out.below HB1.out)).mono ?_
      rintro e w2 ⟨rfl, hbx⟩
      have HB2 := Lib.hid (HB1.out.trans (hbx.mono HB1.out.size))
      clear hbx
      go_wp2_with fail
      refine (HD.out _ (HR.out.below HB2.out) (HT.out.below HB2.out)).mono ?_
      rintro e w3 ⟨rfl, hbx⟩
      have HB3 := Lib.hid (HB2.out.trans (hbx.mono HB2.out.size))
      clear hbx
      go_wp2_with fail
      refine (HC2.out _ (HR.out.below HB3.out) (HT.out.below HB3.out)).mono ?_
      rintro e w4 ⟨rfl, hbx⟩
      have HB4 := Lib.hid (HB3.out.trans (hbx.mono HB3.out.size))
      clear hbx
      go_wp2_with fail
      refine (HC3.out _ (HR.out.below HB4.out) (HT.out.below HB4.out)).mono ?_
      rintro e w5 ⟨rfl, hbx⟩
      have HB5 := Lib.hid (HB4.out.trans (hbx.mono HB4.out.size))
      clear hbx
      go_wp2_with fail
      refine (HC4.out _ (HR.out.below HB5.out) (HT.out.below HB5.out)).mono ?_
      rintro e w6 ⟨rfl, hbx⟩
      have HB6 := Lib.hid (HB5.out.trans (hbx.mono HB5.out.size))
      clear hbx
      go_wp2_with fail
      go_ret
      exact ⟨rfl, HB6.out⟩
    · have t9 : (E3 != 0) = true := by simpa using h2
      subst h1
      have H2 := Lib.hid h2
      clear h2
      go_enter Tryd.func8, Tryd.ntmps8
      go_wp2_with fail
      refine (c_awake20 _ HT.out).mono ?_
      rintro e w1 ⟨rfl, hbx⟩
      have HB1 := Lib.hid (hbx)
      clear hbx
      go_wp2_with fail
      refine (HC1.out _ (HR.out.below HB1.out) (HT.out.below HB1.out)).mono ?_
      rintro e w2 ⟨rfl, hbx⟩
      have HB2 := Lib.hid (HB1.out.trans (hbx.mono HB1.out.size))
      clear hbx
      go_wp2_with fail
      refine (HD.out _ (HR.out.below HB2.out) (HT.out.below HB2.out)).mono ?_
      rintro e w3 ⟨rfl, hbx⟩
      have HB3 := Lib.hid (HB2.out.trans (hbx.mono HB2.out.size))
      clear hbx
      go_wp2_with fail
      refine (HC2.out _ (HR.out.below HB3.out) (HT.out.below HB3.out)).mono ?_
      rintro e w4 ⟨rfl, hbx⟩
      have HB4 := Lib.hid (HB3.out.trans (hbx.mono HB3.out.size))
      clear hbx
      go_wp2_with fail
      refine (HC3.out _ (HR.out.below HB4.out) (HT.out.below HB4.out)).mono ?_
      rintro e w5 ⟨rfl, hbx⟩
      have HB5 := Lib.hid (HB4.out.trans (hbx.mono HB4.out.size))
      clear hbx
      go_wp2_with fail
      refine (HC4.out _ (HR.out.below HB5.out) (HT.out.below HB5.out)).mono ?_
      rintro e w6 ⟨rfl, hbx⟩
      have HB6 := Lib.hid (HB5.out.trans (hbx.mono HB5.out.size))
      clear hbx
      go_wp2_with fail
      go_ret
      exact ⟨rfl, HB6.out⟩
  · have t9 : (E1 != 0) = true := by simpa using h1
    have H1 := Lib.hid h1
    clear h1
    go_enter Tryd.func8, Tryd.ntmps8
    go_wp2_with fail
    refine (c_awake20 _ HT.out).mono ?_
    rintro e w1 ⟨rfl, hbx⟩
    have HB1 := Lib.hid (hbx)
    clear hbx
    go_wp2_with fail
    refine (HC1.out _ (HR.out.below HB1.out) (HT.out.below HB1.out)).mono ?_
    rintro e w2 ⟨rfl, hbx⟩
    have HB2 := Lib.hid (HB1.out.trans (hbx.mono HB1.out.size))
    clear hbx
    go_wp2_with fail
    refine (HD.out _ (HR.out.below HB2.out) (HT.out.below HB2.out)).mono ?_
    rintro e w3 ⟨rfl, hbx⟩
    have HB3 := Lib.hid (HB2.out.trans (hbx.mono HB2.out.size))
    clear hbx
    go_wp2_with fail
    refine (HC2.out _ (HR.out.below HB3.out) (HT.out.below HB3.out)).mono ?_
    rintro e w4 ⟨rfl, hbx⟩
    have HB4 := Lib.hid (HB3.out.trans (hbx.mono HB3.out.size))
    clear hbx
    go_wp2_with fail
    refine (HC3.out _ (HR.out.below HB4.out) (HT.out.below HB4.out)).mono ?_
    rintro e w5 ⟨rfl, hbx⟩
    have HB5 := Lib.hid (HB4.out.trans (hbx.mono HB4.out.size))
    clear hbx
    go_wp2_with fail
    refine (HC4.out _ (HR.out.below HB5.out) (HT.out.below HB5.out)).mono ?_
    rintro e w6 ⟨rfl, hbx⟩
    have HB6 := Lib.hid (HB5.out.trans (hbx.mono HB5.out.size))
    clear hbx
    go_wp2_with fail
    go_ret
    exact ⟨rfl, HB6.out⟩

theorem l_cchanges (x y z : Int) (a : Option Addr) (n c : Nat) (L : List Cst) (w : World) (_h1 : (Lit.int .i64 x).wf = true) (_h2 : (Lit.int .i64 y).wf = true) (_h3 : (Lit.int .i64 z).wf = true) (hn : L.length = n) (hm : n ≤ 9223372036854775807) (hr : Rd w a (flat cC L)) (hok : ∀ x ∈ L, CstOk x) (hT : Tab w) :
    Calls Tryd.prog 8 #[.int .i64 x, .int .i64 y, .int .i64 z, .slice a n c] w fun e w' => e = .returned (.bool true) ∧ Below w.heap.size w w' := by
  by_cases hs : n ≤ 60
  · exact l_cchanges_ok x y z a n c L w hn hm hr hok hT hs
  · exact l_cchanges_long x y z a n c L w hn hm hr hok hT (by omega)

set_option maxRecDepth 100000 in
set_option maxHeartbeats 3200000 in
theorem l_csums_long (t : Int) (a : Option Addr) (n c : Nat) (L : List Cst) (w : World) (hn : L.length = n) (hm : n ≤ 9223372036854775807) (hr : Rd w a (flat cC L)) (hok : ∀ x ∈ L, CstOk x) (hT : Tab w) (hlong : 60 < n) :
    Calls Tryd.prog 7 #[.int .i64 t, .slice a n c] w fun e w' => e = .returned (.bool true) ∧ Below w.heap.size w w' := by
  have HR := Lib.hid hr
  have HT := Lib.hid hT
  clear hr hT hok hn
  go_enter Tryd.func7, Tryd.ntmps7
  go_wp2_with fail
  refine (c_awake20 _ HT.out).mono ?_
  rintro e w1 ⟨rfl, hbx⟩
  have HB1 := Lib.hid (hbx)
  clear hbx
  go_wp2_with fail
  refine (c_awake20 _ (HT.out.below HB1.out)).mono ?_
  rintro e w2 ⟨rfl, hbx⟩
  have HB2 := Lib.hid (HB1.out.trans (hbx.mono HB1.out.size))
  clear hbx
  go_wp2_with fail
  go_ret
  exact ⟨rfl, HB2.out⟩
theorem termB_zero : termB 0 = true := by decide
theorem split_zero_eq (L : List Cst) : splitE 0 L = wrongC L := by unfold splitE; rw [if_pos termB_zero]
theorem ofC_both (t : Int) (L : List Cst) : sumC (ofC t false L) + sumC (ofC t true L) = sumC L ∧ (ofC t false L).length + (ofC t true L).length = L.length := by
  induction L with
  | nil => exact ⟨rfl, rfl⟩
  | cons x r ih =>
    unfold ofC at ih ⊢
    cases hb : buyB t x
    · rw [List.filter_cons_of_pos (by rw [hb]; decide), List.filter_cons_of_neg (by rw [hb]; decide)]
      simp only [sumC, List.length_cons]
      omega
    · rw [List.filter_cons_of_neg (by rw [hb]; decide), List.filter_cons_of_pos (by rw [hb]; decide)]
      simp only [sumC, List.length_cons]
      omega
theorem wrong_of {t : Int} {b : Bool} {L : List Cst} (h : wrongC L = 0) : wrongC (ofC t b L) = 0 := by
  obtain ⟨h1, h2⟩ := wrongC_zero h
  have h3 : oddC (ofC t b L) = false := by
    unfold oddC
    rw [List.any_eq_false]
    intro x hx
    simpa using oddC_false h1 x (List.mem_filter.1 hx).1
  unfold wrongC
  rw [h3, if_neg (by decide), if_neg (by have := ofC_len t b L; omega)]
theorem sums_of {t : Int} {b : Bool} {L : List Cst} (h : sumsB L = true) : sumsB (ofC t b L) = true ∧ 0 ≤ sumC (ofC t b L) ∧ sumC (ofC t b L) ≤ 1099511627776 := by
  unfold sumsB at h
  rw [Bool.and_eq_true, decide_eq_true_eq, decide_eq_true_eq] at h
  obtain ⟨h1, h2⟩ := h
  obtain ⟨hod, -⟩ := wrongC_zero h1
  have hb := (ofC_both t L).1
  have s1 := (sumC_bd (ofC_am (t := t) (b := true) hod)).1
  have s2 := (sumC_bd (ofC_am (t := t) (b := false) hod)).1
  have hle : 0 ≤ sumC (ofC t b L) ∧ sumC (ofC t b L) ≤ 1099511627776 := by cases b <;> omega
  refine ⟨?_, hle⟩
  unfold sumsB
  rw [decide_eq_true (wrong_of h1), decide_eq_true hle.2]
  rfl
theorem ofC_ok {t : Int} {b : Bool} {L : List Cst} (h : ∀ x ∈ L, CstOk x) : ∀ x ∈ ofC t b L, CstOk x := fun x hx => h x (List.mem_filter.1 hx).1

set_option maxRecDepth 100000 in
set_option maxHeartbeats 3200000 in
theorem l_csums_bad (t : Int) (a : Option Addr) (n c : Nat) (L : List Cst) (w : World) (hn : L.length = n) (hm : n ≤ 9223372036854775807) (hr : Rd w a (flat cC L)) (hok : ∀ x ∈ L, CstOk x) (hT : Tab w) (hs : n ≤ 60) (he : sumsB L = false) :
    Calls Tryd.prog 7 #[.int .i64 t, .slice a n c] w fun e w' => e = .returned (.bool true) ∧ Below w.heap.size w w' := by
  have HSu := fun w hr => c_costsums a n c L w hn hm hr hok
  rw [he, if_neg (by decide)] at HSu
  have HW := fun w hr => c_rcwrong 0 a n c L w hn hm hr hok
  rw [split_zero_eq] at HW
  have HR := Lib.hid hr
  have HT := Lib.hid hT
  have HSu := Lib.hid HSu
  by_cases hw : wrongC L = 0
  · obtain ⟨hod, -⟩ := wrongC_zero hw
    have HSm := fun w hr => c_rcsum a n c L w hn (by omega) hr (oddC_am hod)
    have hbig : 1099511627776 < sumC L := by
      unfold sumsB at he
      rw [decide_eq_true hw, Bool.true_and] at he
      simpa using he
    rw [hw] at HW
    clear hr hT hok hn he hw hod
    generalize sumC L = S at *
    have HW := Lib.hid HW
    have HSm := Lib.hid HSm
    go_enter Tryd.func7, Tryd.ntmps7
    go_wp2_with fail
    refine (c_awake20 _ HT.out).mono ?_
    rintro e w1 ⟨rfl, hbx⟩
    have HB1 := Lib.hid (hbx)
    clear hbx
    go_wp2_with fail
    refine (HSu.out _ (HR.out.below HB1.out)).mono ?_
    rintro e w2 ⟨rfl, hbx⟩
    have HB2 := Lib.hid (HB1.out.trans (hbx.mono HB1.out.size))
    clear hbx
    go_wp2_with fail
    refine (HW.out _ (HR.out.below HB2.out)).mono ?_
    rintro e w3 ⟨rfl, hbx⟩
    have HB3 := Lib.hid (HB2.out.trans (hbx.mono HB2.out.size))
    clear hbx
    go_wp2_with fail
    refine (HSm.out _ (HR.out.below HB3.out)).mono ?_
    rintro e w4 ⟨rfl, rfl⟩
    go_wp2_with fail
    go_ret
    exact ⟨rfl, HB3.out⟩
  · have t4 : (wrongC L != 0) = true := by simpa using hw
    have HWw := Lib.hid hw
    clear hr hT hok hn he hw
    generalize wrongC L = E at *
    have HW := Lib.hid HW
    go_enter Tryd.func7, Tryd.ntmps7
    go_wp2_with fail
    refine (c_awake20 _ HT.out).mono ?_
    rintro e w1 ⟨rfl, hbx⟩
    have HB1 := Lib.hid (hbx)
    clear hbx
    go_wp2_with fail
    refine (HSu.out _ (HR.out.below HB1.out)).mono ?_
    rintro e w2 ⟨rfl, hbx⟩
    have HB2 := Lib.hid (HB1.out.trans (hbx.mono HB1.out.size))
    clear hbx
    go_wp2_with fail
    refine (HW.out _ (HR.out.below HB2.out)).mono ?_
    rintro e w3 ⟨rfl, hbx⟩
    have HB3 := Lib.hid (HB2.out.trans (hbx.mono HB2.out.size))
    clear hbx
    go_wp2_with fail
    go_ret
    exact ⟨rfl, HB3.out⟩

set_option maxRecDepth 100000 in
set_option maxHeartbeats 3200000 in
theorem l_csums_ok (t : Int) (a : Option Addr) (n c : Nat) (L : List Cst) (w : World) (hn : L.length = n) (hm : n ≤ 9223372036854775807) (hr : Rd w a (flat cC L)) (hok : ∀ x ∈ L, CstOk x) (hT : Tab w) (hs : n ≤ 60) (he : sumsB L = true) :
    Calls Tryd.prog 7 #[.int .i64 t, .slice a n c] w fun e w' => e = .returned (.bool true) ∧ Below w.heap.size w w' := by
  have hwr : wrongC L = 0 := by
    unfold sumsB at he
    rw [Bool.and_eq_true, decide_eq_true_eq] at he
    exact he.1
  have hle : sumC L ≤ 1099511627776 := by
    unfold sumsB at he
    rw [Bool.and_eq_true, decide_eq_true_eq, decide_eq_true_eq] at he
    exact he.2
  obtain ⟨hod, -⟩ := wrongC_zero hwr
  have HSu := fun w hr => c_costsums a n c L w hn hm hr hok
  rw [he, if_pos rfl] at HSu
  have HW := fun w hr => c_rcwrong 0 a n c L w hn hm hr hok
  rw [split_zero_eq, hwr] at HW
  have HSm := fun w hr => c_rcsum a n c L w hn (by omega) hr (oddC_am hod)
  have HR := Lib.hid hr
  have HT := Lib.hid hT
  by_cases ht : termB t = true
  · have hsp : splitE t L = 0 := by unfold splitE; rw [if_pos ht, hwr]
    have HSp := fun w hr hT => c_csplit t a n c L w hn hr hok hT hsp
    unfold CSplitOk at HSp
    obtain ⟨q1, q2, q3⟩ := sums_of (t := t) (b := false) he
    obtain ⟨p1, p2, p3⟩ := sums_of (t := t) (b := true) he
    have l1 := ofC_len t false L
    have l2 := ofC_len t true L
    have HSx := fun A c' w hr => c_costsums A (ofC t false L).length c' (ofC t false L) w rfl (by omega) hr (ofC_ok hok)
    rw [q1, if_pos rfl] at HSx
    have HSy := fun A c' w hr => c_costsums A (ofC t true L).length c' (ofC t true L) w rfl (by omega) hr (ofC_ok hok)
    rw [p1, if_pos rfl] at HSy
    obtain ⟨hsum, hlen⟩ := ofC_both t L
    rw [hn] at hlen l1 l2
    clear hr hT hok hn he hwr hod hsp ht q1 p1
    generalize ofC t false L = X at *
    generalize ofC t true L = Y at *
    generalize sumC X = SX at *
    generalize sumC Y = SY at *
    generalize sumC L = S at *
    generalize hx : X.length = xl at *
    generalize hy : Y.length = yl at *
    clear hx hy
    have e1 : IntKind.i64.wrap (SX + SY) = SX + SY := IntWalk.i64_in _ (by omega)
    have e2 : IntKind.i64.wrap ((xl : Int) + (yl : Int)) = (xl : Int) + (yl : Int) := IntWalk.i64_in _ (by omega)
    have t7 : (SX + SY == S) = true := by simpa using hsum
    have t8 : ((xl : Int) + (yl : Int) == (n : Int)) = true := by simp; omega
    have Q1 := Lib.hid hsum
    have Q2 := Lib.hid hlen
    clear hsum hlen
    have HSu := Lib.hid HSu
    have HW := Lib.hid HW
    have HSm := Lib.hid HSm
    have HSp := Lib.hid HSp
    have HSx := Lib.hid HSx
    have HSy := Lib.hid HSy
    go_enter Tryd.func7, Tryd.ntmps7
    go_wp2_with fail
    refine (c_awake20 _ HT.out).mono ?_
    rintro e w1 ⟨rfl, hbx⟩
    have HB1 := Lib.hid (hbx)
    clear hbx
    go_wp2_with fail
    refine (HSu.out _ (HR.out.below HB1.out)).mono ?_
    rintro e w2 ⟨rfl, hbx⟩
    have HB2 := Lib.hid (HB1.out.trans (hbx.mono HB1.out.size))
    clear hbx
    go_wp2_with fail
    refine (HW.out _ (HR.out.below HB2.out)).mono ?_
    rintro e w3 ⟨rfl, hbx⟩
    have HB3 := Lib.hid (HB2.out.trans (hbx.mono HB2.out.size))
    clear hbx
    go_wp2_with fail
    refine (HSm.out _ (HR.out.below HB3.out)).mono ?_
    rintro e w4 ⟨rfl, rfl⟩
    go_wp2_with fail
    refine (HSp.out _ (HR.out.below HB3.out) (HT.out.below HB3.out)).mono ?_
    rintro e w5 ⟨A1, c1, A2, c2, rfl, hr1, hr2, hbx⟩
    have HB5 := Lib.hid (HB3.out.trans (hbx.mono HB3.out.size))
    have HP1 := Lib.hid hr1
    have HP2 := Lib.hid hr2
    clear hr1 hr2
    clear hbx
    go_wp2_with fail
    refine (HSm.out _ (HR.out.below HB5.out)).mono ?_
    rintro e w6 ⟨rfl, rfl⟩
    go_wp2_with fail
    refine (HSx.out _ _ _ HP1.out).mono ?_
    rintro e w7 ⟨rfl, hbx⟩
    have HB7 := Lib.hid (HB5.out.trans (hbx.mono HB5.out.size))
    have HP2 := Lib.hid (HP2.out.below hbx)
    clear hbx
    go_wp2_with fail
    refine (HSy.out _ _ _ HP2.out).mono ?_
    rintro e w8 ⟨rfl, hbx⟩
    have HB8 := Lib.hid (HB7.out.trans (hbx.mono HB7.out.size))
    clear hbx
    go_wp2_with fail
    go_ret
    exact ⟨rfl, HB8.out⟩
  · have hsp : splitE t L = 1 := by unfold splitE; rw [if_neg ht]
    have HSp := fun w hr hT => c_csplit_bad t a n c L w hn hm hr hok hT (by rw [hsp]; decide)
    rw [hsp] at HSp
    have hout : t < 0 ∨ 7 < t := by
      unfold termB at ht
      simp only [decide_eq_true_eq] at ht
      omega
    clear hr hT hok hn he hwr hod hsp ht
    generalize sumC L = S at *
    have HSu := Lib.hid HSu
    have HW := Lib.hid HW
    have HSm := Lib.hid HSm
    have HSp := Lib.hid HSp
    rcases hout with hout | hout
    all_goals
      go_enter Tryd.func7, Tryd.ntmps7
      go_wp2_with fail
      refine (c_awake20 _ HT.out).mono ?_
      rintro e w1 ⟨rfl, hbx⟩
      have HB1 := Lib.hid (hbx)
      clear hbx
      go_wp2_with fail
      refine (HSu.out _ (HR.out.below HB1.out)).mono ?_
      rintro e w2 ⟨rfl, hbx⟩
      have HB2 := Lib.hid (HB1.out.trans (hbx.mono HB1.out.size))
      clear hbx
      go_wp2_with fail
      refine (HW.out _ (HR.out.below HB2.out)).mono ?_
      rintro e w3 ⟨rfl, hbx⟩
      have HB3 := Lib.hid (HB2.out.trans (hbx.mono HB2.out.size))
      clear hbx
      go_wp2_with fail
      refine (HSm.out _ (HR.out.below HB3.out)).mono ?_
      rintro e w4 ⟨rfl, rfl⟩
      go_wp2_with fail
      refine (HSp.out _ (HR.out.below HB3.out) (HT.out.below HB3.out)).mono ?_
      rintro e w5 ⟨rfl, hbx⟩
      have HB5 := Lib.hid (HB3.out.trans (hbx.mono HB3.out.size))
      clear hbx
      go_wp2_with fail
      refine (HSm.out _ (HR.out.below HB5.out)).mono ?_
      rintro e w6 ⟨rfl, rfl⟩
      go_wp2_with fail
      go_ret
      exact ⟨rfl, HB5.out⟩

theorem l_csums (t : Int) (a : Option Addr) (n c : Nat) (L : List Cst) (w : World) (_h1 : (Lit.int .i64 t).wf = true) (hn : L.length = n) (hm : n ≤ 9223372036854775807) (hr : Rd w a (flat cC L)) (hok : ∀ x ∈ L, CstOk x) (hT : Tab w) :
    Calls Tryd.prog 7 #[.int .i64 t, .slice a n c] w fun e w' => e = .returned (.bool true) ∧ Below w.heap.size w w' := by
  by_cases hs : n ≤ 60
  · cases he : sumsB L
    · exact l_csums_bad t a n c L w hn hm hr hok hT hs he
    · exact l_csums_ok t a n c L w hn hm hr hok hT hs he
  · exact l_csums_long t a n c L w hn hm hr hok hT (by omega)

end Go.Proofs.YtdkabldhkgidjaaDoor
