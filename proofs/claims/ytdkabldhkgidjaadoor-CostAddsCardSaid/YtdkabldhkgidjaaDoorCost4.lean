/-
  cost.both, Landed, Change; the reference's Landed, Change: their walks.
-/
import Derived.Test.YtdkabldhkgidjaaDoorCostOf
import Derived.Test.YtdkabldhkgidjaaDoorOrdR
namespace Go.Proofs.YtdkabldhkgidjaaDoor
set_option linter.unusedVariables false
set_option linter.unusedSimpArgs false
open Go.RowKit

/-- The buyer's costs of an order. -/
def buyS (o : Ord) (L : List Cst) : Int := sumC (ofC o.term true L)
/-- What is wrong with an order and costs. -/
def landE (o : Ord) (L : List Cst) : Int := if totE o = 0 then (if splitE o.term L = 0 then (if 1099511627776 < totN o + buyS o L then 3 else 0) else splitE o.term L) else totE o
def landT (o : Ord) (L : List Cst) : Int := if landE o L = 0 then totN o else 0
def landC (o : Ord) (L : List Cst) : Int := if landE o L = 0 then buyS o L else 0
theorem splitE_zero {t : Int} {L : List Cst} (h : splitE t L = 0) : termB t = true ∧ oddC L = false ∧ L.length ≤ 4096 := by
  have htm : termB t = true := by
    cases h2 : termB t
    · unfold splitE at h; rw [h2] at h; cases h
    · rfl
  have hwr : wrongC L = 0 := by unfold splitE at h; rw [if_pos htm] at h; exact h
  obtain ⟨h1, h2⟩ := wrongC_zero hwr
  exact ⟨htm, h1, h2⟩
theorem ofC_am {t : Int} {b : Bool} {L : List Cst} (h : oddC L = false) : ∀ x ∈ ofC t b L, 0 ≤ x.am ∧ x.am ≤ 1099511627776 := fun x hx => oddC_am h x (List.mem_filter.1 hx).1
theorem ofC_len (t : Int) (b : Bool) (L : List Cst) : (ofC t b L).length ≤ L.length := List.length_filter_le _ _
theorem totE_zero {o : Ord} (h : totE o = 0) : o.may = true ∧ sumW o.L ≤ 1099511627776 ∧ totN o = sumW o.L ∧ 0 ≤ sumW o.L := by
  have hn : totN o = sumW o.L := by unfold totN; rw [if_pos h]
  unfold totE at h
  cases hm : o.may
  · rw [hm] at h; cases h
  · rw [hm, if_pos rfl] at h
    have hb := sumW_bd (L := o.L) (fun x hx => ((linesB_facts (Ord.may_lines hm)).1 x hx).2.2)
    by_cases h2 : 1099511627776 < sumW o.L
    · rw [if_pos h2] at h; cases h
    · exact ⟨rfl, by omega, hn, hb.1⟩

set_option maxRecDepth 100000 in
set_option maxHeartbeats 3200000 in
theorem c_both (o : Ord) (a : Option Addr) (n c : Nat) (L : List Cst) (w : World) (ho : OrdOk w o) (hn : L.length = n) (hm : n ≤ 9223372036854775807) (hr : Rd w a (flat cC L)) (hok : ∀ x ∈ L, CstOk x) (hT : Tab w) :
    Calls Tryd.prog 32 #[o.v, .slice a n c] w fun e w' => e = .returned (.tuple #[.int .i64 (landT o L), .int .i64 (landC o L), .int .i64 (landE o L)]) ∧ Below w.heap.size w w' := by
  have HTo := fun w ho => c_ordtotal o w ho
  have HO := Lib.hid ho
  have HR := Lib.hid hr
  have HT := Lib.hid hT
  have BK := Lib.hid (Blk.new w 33 #[.string o.nu, .string o.se, .string o.bu, .string o.cu, .string o.fr, .string o.tt, .int .i64 o.term, .slice o.la o.ln o.lc])
  have HB0 := Lib.hid ((Below.refl w.heap.size w).alloc (Nat.le_refl _) (.cells #[.string o.nu, .string o.se, .string o.bu, .string o.cu, .string o.fr, .string o.tt, .int .i64 o.term, .slice o.la o.ln o.lc] 33))
  obtain ⟨E, hE⟩ : ∃ E, E = landE o L := ⟨_, rfl⟩
  obtain ⟨T, hTT⟩ : ∃ T, T = landT o L := ⟨_, rfl⟩
  obtain ⟨C, hC⟩ : ∃ C, C = landC o L := ⟨_, rfl⟩
  rw [← hE, ← hTT, ← hC]
  unfold landT at hTT
  unfold landC at hC
  rw [← hE] at hTT hC
  unfold landE at hE
  by_cases he : totE o = 0
  · rw [if_pos he] at hE
    obtain ⟨-, t0, t1, t2⟩ := totE_zero he
    rw [t1] at hE hTT HTo
    rw [he] at HTo
    by_cases hs : splitE o.term L = 0
    · rw [if_pos hs] at hE
      obtain ⟨htm, hod, hlm⟩ := splitE_zero hs
      have HSp := fun w hr hT => c_csplit o.term a n c L w hn hr hok hT hs
      have hbl := ofC_len o.term true L
      have HSum := fun A c' w hr => c_costsum A (ofC o.term true L).length c' (ofC o.term true L) w rfl (by omega) hr (ofC_am hod)
      have hbs := sumC_bd (ofC_am (t := o.term) (b := true) hod)
      have hbs0 : 0 ≤ buyS o L ∧ buyS o L ≤ 4503599627370496 := by unfold buyS; omega
      obtain ⟨b0, b1⟩ := hbs0
      unfold CSplitOk at HSp
      unfold buyS at hE hC b0 b1
      clear ho hr hT hn hok he hs htm hod hlm hbl hbs t1
      unfold Ord.v at HTo ⊢
      generalize sumW o.L = S at *
      generalize hX : ofC o.term true L = X at *
      generalize ofC o.term false L = Y at *
      generalize sumC X = D at *
      clear hX
      have HTo := Lib.hid HTo
      have HSp := Lib.hid HSp
      have HSum := Lib.hid HSum
      have e1 : IntKind.i64.wrap (S + D) = S + D := IntWalk.i64_in _ (by omega)
      by_cases hbig : 1099511627776 < S + D
      · have hE3 : E = 3 := by rw [hE, if_pos hbig]
        have HQ := Lib.hid (show E = 3 ∧ T = 0 ∧ C = 0 from ⟨hE3, by rw [hTT, if_neg (by rw [hE3]; decide)], by rw [hC, if_neg (by rw [hE3]; decide)]⟩)
        clear hE3 hE hTT hC
        go_enter Tryd.func32, Tryd.ntmps32
        go_wp2_with fail
        refine (HTo.out _ (HO.out.below HB0.out)).mono ?_
        rintro e w1 ⟨rfl, hb1⟩
        have HB1 := Lib.hid (HB0.out.trans (hb1.mono HB0.out.size))
        have k6 := (BK.out.below hb1 BK.out.lt).cell 6 rfl
        clear hb1
        go_wp2_with fail
        refine (HSp.out _ (HR.out.below HB1.out) (HT.out.below HB1.out)).mono ?_
        rintro e w2 ⟨A1, c1, A2, c2, rfl, _, hr2, hb2⟩
        have HB2 := Lib.hid (HB1.out.trans (hb2.mono HB1.out.size))
        have hrx := Lib.hid hr2
        clear hb2 hr2
        go_wp2_with fail
        refine (HSum.out _ _ _ hrx.out).mono ?_
        rintro e w3 ⟨rfl, hb3⟩
        have HB23 := Lib.hid hb3
        have HB3 := Lib.hid (HB2.out.trans (hb3.mono HB2.out.size))
        clear hb3
        go_wp2_with fail
        go_ret3
        rw [HQ.out.1, HQ.out.2.1, HQ.out.2.2]
        exact ⟨rfl, HB3.out⟩
      · have hE3 : E = 0 := by rw [hE, if_neg hbig]
        have HQ := Lib.hid (show E = 0 ∧ T = S ∧ C = D from ⟨hE3, by rw [hTT, if_pos hE3], by rw [hC, if_pos hE3]⟩)
        clear hE3 hE hTT hC
        go_enter Tryd.func32, Tryd.ntmps32
        go_wp2_with fail
        refine (HTo.out _ (HO.out.below HB0.out)).mono ?_
        rintro e w1 ⟨rfl, hb1⟩
        have HB1 := Lib.hid (HB0.out.trans (hb1.mono HB0.out.size))
        have k6 := (BK.out.below hb1 BK.out.lt).cell 6 rfl
        clear hb1
        go_wp2_with fail
        refine (HSp.out _ (HR.out.below HB1.out) (HT.out.below HB1.out)).mono ?_
        rintro e w2 ⟨A1, c1, A2, c2, rfl, _, hr2, hb2⟩
        have HB2 := Lib.hid (HB1.out.trans (hb2.mono HB1.out.size))
        have hrx := Lib.hid hr2
        clear hb2 hr2
        go_wp2_with fail
        refine (HSum.out _ _ _ hrx.out).mono ?_
        rintro e w3 ⟨rfl, hb3⟩
        have HB23 := Lib.hid hb3
        have HB3 := Lib.hid (HB2.out.trans (hb3.mono HB2.out.size))
        clear hb3
        go_wp2_with fail
        refine (HSum.out _ _ _ (hrx.out.below HB23.out)).mono ?_
        rintro e w4 ⟨rfl, hb4⟩
        have HB4 := Lib.hid (HB3.out.trans (hb4.mono HB3.out.size))
        clear hb4
        go_wp2_with fail
        go_ret3
        rw [HQ.out.1, HQ.out.2.1, HQ.out.2.2]
        exact ⟨rfl, HB4.out⟩
    · have HSp := fun w hr hT => c_csplit_bad o.term a n c L w hn hm hr hok hT hs
      rw [if_neg hs] at hE
      rw [← hE] at HSp
      have hE3 : E ≠ 0 := by rw [hE]; exact hs
      have HQ := Lib.hid (show T = 0 ∧ C = 0 from ⟨by rw [hTT, if_neg hE3], by rw [hC, if_neg hE3]⟩)
      have t4 : (E != 0) = true := by simpa using hE3
      have HE3 := Lib.hid hE3
      clear ho hr hT hn hok he hs t1 hE hTT hC hE3
      unfold Ord.v at HTo ⊢
      generalize sumW o.L = S at *
      have HTo := Lib.hid HTo
      have HSp := Lib.hid HSp
      go_enter Tryd.func32, Tryd.ntmps32
      go_wp2_with fail
      refine (HTo.out _ (HO.out.below HB0.out)).mono ?_
      rintro e w1 ⟨rfl, hb1⟩
      have HB1 := Lib.hid (HB0.out.trans (hb1.mono HB0.out.size))
      have k6 := (BK.out.below hb1 BK.out.lt).cell 6 rfl
      clear hb1
      go_wp2_with fail
      refine (HSp.out _ (HR.out.below HB1.out) (HT.out.below HB1.out)).mono ?_
      rintro e w2 ⟨rfl, hb2⟩
      have HB2 := Lib.hid (HB1.out.trans (hb2.mono HB1.out.size))
      clear hb2
      go_wp2_with fail
      go_ret3
      rw [HQ.out.1, HQ.out.2]
      exact ⟨rfl, HB2.out⟩
  · rw [if_neg he] at hE
    have hE3 : E ≠ 0 := by rw [hE]; exact he
    have hN : totN o = 0 := by unfold totN; rw [if_neg he]
    rw [← hE, hN] at HTo
    have HQ := Lib.hid (show T = 0 ∧ C = 0 from ⟨by rw [hTT, if_neg hE3], by rw [hC, if_neg hE3]⟩)
    have t4 : (E != 0) = true := by simpa using hE3
    have HE3 := Lib.hid hE3
    clear ho hr hT hn hok he hE hTT hC hE3 hN
    unfold Ord.v at HTo ⊢
    have HTo := Lib.hid HTo
    go_enter Tryd.func32, Tryd.ntmps32
    go_wp2_with fail
    refine (HTo.out _ (HO.out.below HB0.out)).mono ?_
    rintro e w1 ⟨rfl, hb1⟩
    have HB1 := Lib.hid (HB0.out.trans (hb1.mono HB0.out.size))
    clear hb1
    go_wp2_with fail
    go_ret3
    rw [HQ.out.1, HQ.out.2]
    exact ⟨rfl, HB1.out⟩

theorem land_bd (o : Ord) (L : List Cst) : 0 ≤ landT o L + landC o L ∧ landT o L + landC o L ≤ 1099511627776 := by
  unfold landT landC
  by_cases h : landE o L = 0
  · rw [if_pos h, if_pos h]
    unfold landE at h
    by_cases h1 : totE o = 0
    · rw [if_pos h1] at h
      obtain ⟨-, t0, t1, t2⟩ := totE_zero h1
      by_cases h2 : splitE o.term L = 0
      · rw [if_pos h2] at h
        obtain ⟨-, hod, -⟩ := splitE_zero h2
        have hb := sumC_bd (ofC_am (t := o.term) (b := true) hod)
        unfold buyS at h ⊢
        by_cases h3 : 1099511627776 < totN o + sumC (ofC o.term true L)
        · rw [if_pos h3] at h; cases h
        · omega
      · rw [if_neg h2] at h; exact absurd h h2
    · rw [if_neg h1] at h; exact absurd h h1
  · rw [if_neg h, if_neg h]; omega

set_option maxRecDepth 100000 in
set_option maxHeartbeats 3200000 in
theorem c_landed (o : Ord) (a : Option Addr) (n c : Nat) (L : List Cst) (w : World) (ho : OrdOk w o) (hn : L.length = n) (hm : n ≤ 9223372036854775807) (hr : Rd w a (flat cC L)) (hok : ∀ x ∈ L, CstOk x) (hT : Tab w) :
    Calls Tryd.prog 15 #[o.v, .slice a n c] w fun e w' => e = .returned (.tuple #[.int .i64 (landT o L + landC o L), .int .i64 (landE o L)]) ∧ Below w.heap.size w w' := by
  have HBo := fun w ho hr hT => c_both o a n c L w ho hn hm hr hok hT
  have HO := Lib.hid ho
  have HR := Lib.hid hr
  have HT := Lib.hid hT
  have HB0 := Lib.hid ((Below.refl w.heap.size w).alloc (Nat.le_refl _) (.cells #[.string o.nu, .string o.se, .string o.bu, .string o.cu, .string o.fr, .string o.tt, .int .i64 o.term, .slice o.la o.ln o.lc] 33))
  have hbd : 0 ≤ landT o L + landC o L ∧ landT o L + landC o L ≤ 1099511627776 := land_bd o L
  obtain ⟨d0, d1⟩ := hbd
  clear ho hr hT hn hok
  unfold Ord.v at HBo ⊢
  generalize landT o L = T at *
  generalize landC o L = C at *
  generalize landE o L = E at *
  have HBo := Lib.hid HBo
  have e1 : IntKind.i64.wrap (T + C) = T + C := IntWalk.i64_in _ (by omega)
  go_enter Tryd.func15, Tryd.ntmps15
  go_wp2_with fail
  refine (HBo.out _ (HO.out.below HB0.out) (HR.out.below HB0.out) (HT.out.below HB0.out)).mono ?_
  rintro e w1 ⟨rfl, hb1⟩
  have HB1 := Lib.hid (HB0.out.trans (hb1.mono HB0.out.size))
  clear hb1
  go_wp2_with fail
  go_ret2
  exact ⟨rfl, HB1.out⟩

set_option maxRecDepth 100000 in
set_option maxHeartbeats 3200000 in
theorem c_rlanded (o : Ord) (a : Option Addr) (n c : Nat) (L : List Cst) (w : World) (ho : OrdOk w o) (hn : L.length = n) (hm : n ≤ 9223372036854775807) (hr : Rd w a (flat cC L)) (hok : ∀ x ∈ L, CstOk x) (hT : Tab w) :
    Calls Tryd.prog 16 #[o.v, .slice a n c] w fun e w' => e = .returned (.tuple #[.int .i64 (landT o L + landC o L), .int .i64 (landE o L)]) ∧ Below w.heap.size w w' := by
  have HTo := fun w ho => c_rordtotal o w ho
  have HO := Lib.hid ho
  have HR := Lib.hid hr
  have BK := Lib.hid (Blk.new w 33 #[.string o.nu, .string o.se, .string o.bu, .string o.cu, .string o.fr, .string o.tt, .int .i64 o.term, .slice o.la o.ln o.lc])
  have HB0 := Lib.hid ((Below.refl w.heap.size w).alloc (Nat.le_refl _) (.cells #[.string o.nu, .string o.se, .string o.bu, .string o.cu, .string o.fr, .string o.tt, .int .i64 o.term, .slice o.la o.ln o.lc] 33))
  have HW := fun w hr => c_rcwrong o.term a n c L w hn hm hr hok
  obtain ⟨E, hE⟩ : ∃ E, E = landE o L := ⟨_, rfl⟩
  obtain ⟨N, hNN⟩ : ∃ N, N = landT o L + landC o L := ⟨_, rfl⟩
  rw [← hE, ← hNN]
  unfold landT landC at hNN
  rw [← hE] at hNN
  unfold landE at hE
  by_cases he : totE o = 0
  · rw [if_pos he] at hE
    obtain ⟨-, t0, t1, t2⟩ := totE_zero he
    rw [t1] at hE hNN HTo
    rw [he] at HTo
    by_cases hs : splitE o.term L = 0
    · rw [if_pos hs] at hE
      rw [hs] at HW
      obtain ⟨htm, hod, hlm⟩ := splitE_zero hs
      rw [hn] at hlm
      have HOf := fun w hr => c_rcof o.term true a n c L w hn hlm hr htm
      have hbl := ofC_len o.term true L
      have HSum := fun A c' w hr => c_rcsum A (ofC o.term true L).length c' (ofC o.term true L) w rfl (by omega) hr (ofC_am hod)
      have hbs := sumC_bd (ofC_am (t := o.term) (b := true) hod)
      have hbs0 : 0 ≤ buyS o L ∧ buyS o L ≤ 4503599627370496 := by unfold buyS; omega
      obtain ⟨b0, b1⟩ := hbs0
      unfold OfOk at HOf
      unfold buyS at hE hNN b0 b1
      clear ho hr hT hn hok he hs htm hod hlm hbl hbs t1
      unfold Ord.v at HTo ⊢
      generalize sumW o.L = S at *
      generalize hX : ofC o.term true L = X at *
      generalize sumC X = D at *
      clear hX
      have HTo := Lib.hid HTo
      have HOf := Lib.hid HOf
      have HSum := Lib.hid HSum
      have HW := Lib.hid HW
      have e1 : IntKind.i64.wrap (S + D) = S + D := IntWalk.i64_in _ (by omega)
      by_cases hbig : 1099511627776 < S + D
      · have hE3 : E = 3 := by rw [hE, if_pos hbig]
        have HQ := Lib.hid (show E = 3 ∧ N = 0 from ⟨hE3, by rw [hNN, if_neg (by rw [hE3]; decide), if_neg (by rw [hE3]; decide)]; rfl⟩)
        clear hE3 hE hNN
        go_enter Tryd.func16, Tryd.ntmps16
        go_wp2_with fail
        refine (HTo.out _ (HO.out.below HB0.out)).mono ?_
        rintro e w1 ⟨rfl, hb1⟩
        have HB1 := Lib.hid (HB0.out.trans (hb1.mono HB0.out.size))
        have BK1 := Lib.hid (BK.out.below hb1 BK.out.lt)
        have k6 := BK1.out.cell 6 rfl
        clear hb1
        go_wp2_with fail
        refine (HW.out _ (HR.out.below HB1.out)).mono ?_
        rintro e w2 ⟨rfl, hb2⟩
        have HB2 := Lib.hid (HB1.out.trans (hb2.mono HB1.out.size))
        clear k6
        have k6 := (BK1.out.below hb2 BK1.out.lt).cell 6 rfl
        clear hb2
        go_wp2_with fail
        refine (HOf.out _ (HR.out.below HB2.out)).mono ?_
        rintro e w3 ⟨A2, c2, rfl, hr2, hb3⟩
        have hrx := Lib.hid hr2
        have HB3 := Lib.hid (HB2.out.trans (hb3.mono HB2.out.size))
        clear hb3 hr2 k6
        go_wp2_with fail
        refine (HSum.out _ _ _ hrx.out).mono ?_
        rintro e w4 ⟨rfl, rfl⟩
        go_wp2_with fail
        go_ret2
        rw [HQ.out.1, HQ.out.2]
        exact ⟨rfl, HB3.out⟩
      · have hE3 : E = 0 := by rw [hE, if_neg hbig]
        have HQ := Lib.hid (show E = 0 ∧ N = S + D from ⟨hE3, by rw [hNN, if_pos hE3, if_pos hE3]⟩)
        clear hE3 hE hNN
        go_enter Tryd.func16, Tryd.ntmps16
        go_wp2_with fail
        refine (HTo.out _ (HO.out.below HB0.out)).mono ?_
        rintro e w1 ⟨rfl, hb1⟩
        have HB1 := Lib.hid (HB0.out.trans (hb1.mono HB0.out.size))
        have BK1 := Lib.hid (BK.out.below hb1 BK.out.lt)
        have k6 := BK1.out.cell 6 rfl
        clear hb1
        go_wp2_with fail
        refine (HW.out _ (HR.out.below HB1.out)).mono ?_
        rintro e w2 ⟨rfl, hb2⟩
        have HB2 := Lib.hid (HB1.out.trans (hb2.mono HB1.out.size))
        clear k6
        have k6 := (BK1.out.below hb2 BK1.out.lt).cell 6 rfl
        clear hb2
        go_wp2_with fail
        refine (HOf.out _ (HR.out.below HB2.out)).mono ?_
        rintro e w3 ⟨A2, c2, rfl, hr2, hb3⟩
        have hrx := Lib.hid hr2
        have HB3 := Lib.hid (HB2.out.trans (hb3.mono HB2.out.size))
        clear hb3 hr2 k6
        go_wp2_with fail
        refine (HSum.out _ _ _ hrx.out).mono ?_
        rintro e w4 ⟨rfl, rfl⟩
        go_wp2_with fail
        go_ret2
        rw [HQ.out.1, HQ.out.2]
        exact ⟨rfl, HB3.out⟩
    · rw [if_neg hs] at hE
      rw [← hE] at HW
      have hE3 : E ≠ 0 := by rw [hE]; exact hs
      have HQ := Lib.hid (show N = 0 from by rw [hNN, if_neg hE3, if_neg hE3]; rfl)
      have t4 : (E != 0) = true := by simpa using hE3
      have HE3 := Lib.hid hE3
      clear ho hr hT hn hok he hs t1 hE hNN hE3
      unfold Ord.v at HTo ⊢
      generalize sumW o.L = S at *
      have HTo := Lib.hid HTo
      have HW := Lib.hid HW
      go_enter Tryd.func16, Tryd.ntmps16
      go_wp2_with fail
      refine (HTo.out _ (HO.out.below HB0.out)).mono ?_
      rintro e w1 ⟨rfl, hb1⟩
      have HB1 := Lib.hid (HB0.out.trans (hb1.mono HB0.out.size))
      have k6 := (BK.out.below hb1 BK.out.lt).cell 6 rfl
      clear hb1
      go_wp2_with fail
      refine (HW.out _ (HR.out.below HB1.out)).mono ?_
      rintro e w2 ⟨rfl, hb2⟩
      have HB2 := Lib.hid (HB1.out.trans (hb2.mono HB1.out.size))
      clear hb2
      go_wp2_with fail
      go_ret2
      rw [HQ.out]
      exact ⟨rfl, HB2.out⟩
  · rw [if_neg he] at hE
    have hE3 : E ≠ 0 := by rw [hE]; exact he
    have hN : totN o = 0 := by unfold totN; rw [if_neg he]
    rw [← hE, hN] at HTo
    have HQ := Lib.hid (show N = 0 from by rw [hNN, if_neg hE3, if_neg hE3]; rfl)
    have t4 : (E != 0) = true := by simpa using hE3
    have HE3 := Lib.hid hE3
    clear ho hr hT hn hok he hE hNN hE3 hN
    unfold Ord.v at HTo ⊢
    have HTo := Lib.hid HTo
    go_enter Tryd.func16, Tryd.ntmps16
    go_wp2_with fail
    refine (HTo.out _ (HO.out.below HB0.out)).mono ?_
    rintro e w1 ⟨rfl, hb1⟩
    have HB1 := Lib.hid (HB0.out.trans (hb1.mono HB0.out.size))
    clear hb1
    go_wp2_with fail
    go_ret2
    rw [HQ.out]
    exact ⟨rfl, HB1.out⟩

end Go.Proofs.YtdkabldhkgidjaaDoor
