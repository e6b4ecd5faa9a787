/-
  The law CostLater: its walk.
-/
import Derived.Test.YtdkabldhkgidjaaDoorAwake20
import Derived.Test.YtdkabldhkgidjaaDoorChange
namespace Go.Proofs.YtdkabldhkgidjaaDoor
set_option linter.unusedVariables false
set_option linter.unusedSimpArgs false
open Go.RowKit


set_option maxRecDepth 100000 in
set_option maxHeartbeats 6400000 in
theorem l_clater_long (o : Ord) (a : Option Addr) (n c : Nat) (L : List Cst) (t : Int) (w : World) (ho : o.ln ≤ 1048576 → OrdOk w o) (hn : L.length = n) (hm : n ≤ 9223372036854775807) (hr : Rd w a (flat cC L)) (hok : ∀ x ∈ L, CstOk x) (hT : Tab w) (hlong : 60 < n) :
    Calls Tryd.prog 9 #[o.v, .slice a n c, .int .i64 t] w fun e w' => e = .returned (.bool true) ∧ Below w.heap.size w w' := by
  have HR := Lib.hid hr
  have HT := Lib.hid hT
  have BK := Lib.hid (Blk.new w 33 #[.string o.nu, .string o.se, .string o.bu, .string o.cu, .string o.fr, .string o.tt, .int .i64 o.term, .slice o.la o.ln o.lc])
  have HB0 := Lib.hid ((Below.refl w.heap.size w).alloc (Nat.le_refl _) (.cells #[.string o.nu, .string o.se, .string o.bu, .string o.cu, .string o.fr, .string o.tt, .int .i64 o.term, .slice o.la o.ln o.lc] 33))
  clear hr hT hok hn ho
  unfold Ord.v
  go_enter Tryd.func9, Tryd.ntmps9
  go_wp2_with fail
  refine (c_awake20 _ (HT.out.below HB0.out)).mono ?_
  rintro e w1 ⟨rfl, hbx⟩
  have HB1 := Lib.hid (HB0.out.trans (hbx.mono HB0.out.size))
  have BK1 := Lib.hid (BK.out.below hbx BK.out.lt)
  clear hbx
  have k7 := BK1.out.cell 7 rfl
  go_wp2_with fail
  clear k7
  refine (c_awake20 _ (HT.out.below HB1.out)).mono ?_
  rintro e w2 ⟨rfl, hbx⟩
  have HB2 := Lib.hid (HB1.out.trans (hbx.mono HB1.out.size))
  clear hbx
  go_wp2_with fail
  go_ret
  exact ⟨rfl, HB2.out⟩

set_option maxRecDepth 100000 in
set_option maxHeartbeats 6400000 in
theorem l_clater_many (o : Ord) (a : Option Addr) (n c : Nat) (L : List Cst) (t : Int) (w : World) (ho : o.ln ≤ 1048576 → OrdOk w o) (hn : L.length = n) (hm : n ≤ 9223372036854775807) (hr : Rd w a (flat cC L)) (hok : ∀ x ∈ L, CstOk x) (hT : Tab w) (hs : n ≤ 60) (hmany : 70 < o.ln) (hom : o.ln ≤ 9223372036854775807) :
    Calls Tryd.prog 9 #[o.v, .slice a n c, .int .i64 t] w fun e w' => e = .returned (.bool true) ∧ Below w.heap.size w w' := by
  have HR := Lib.hid hr
  have HT := Lib.hid hT
  have BK := Lib.hid (Blk.new w 33 #[.string o.nu, .string o.se, .string o.bu, .string o.cu, .string o.fr, .string o.tt, .int .i64 o.term, .slice o.la o.ln o.lc])
  have HB0 := Lib.hid ((Below.refl w.heap.size w).alloc (Nat.le_refl _) (.cells #[.string o.nu, .string o.se, .string o.bu, .string o.cu, .string o.fr, .string o.tt, .int .i64 o.term, .slice o.la o.ln o.lc] 33))
  have hmi : (70 : Int) < o.ln := by omega
  clear hr hT hok hn ho
  unfold Ord.v
  go_enter Tryd.func9, Tryd.ntmps9
  go_wp2_with fail
  refine (c_awake20 _ (HT.out.below HB0.out)).mono ?_
  rintro e w1 ⟨rfl, hbx⟩
  have HB1 := Lib.hid (HB0.out.trans (hbx.mono HB0.out.size))
  have BK1 := Lib.hid (BK.out.below hbx BK.out.lt)
  clear hbx
  have k7 := BK1.out.cell 7 rfl
  go_wp2_with fail
  clear k7
  refine (c_awake20 _ (HT.out.below HB1.out)).mono ?_
  rintro e w2 ⟨rfl, hbx⟩
  have HB2 := Lib.hid (HB1.out.trans (hbx.mono HB1.out.size))
  clear hbx
  go_wp2_with fail
  go_ret
  exact ⟨rfl, HB2.out⟩

set_option maxRecDepth 100000 in
set_option maxHeartbeats 6400000 in
theorem l_clater_bad1 (o : Ord) (a : Option Addr) (n c : Nat) (L : List Cst) (t : Int) (w : World) (ho : o.ln ≤ 1048576 → OrdOk w o) (hn : L.length = n) (hm : n ≤ 9223372036854775807) (hr : Rd w a (flat cC L)) (hok : ∀ x ∈ L, CstOk x) (hT : Tab w) (hs : n ≤ 60) (hfew : o.ln ≤ 70) (he : landE o L ≠ 0) (hsp : splitE o.term L = 0) :
    Calls Tryd.prog 9 #[o.v, .slice a n c, .int .i64 t] w fun e w' => e = .returned (.bool true) ∧ Below w.heap.size w w' := by
  have hO : OrdOk w o := ho (by omega)
  have hlni : (o.ln : Int) ≤ 70 := by omega
  have HLa := fun w ho hr hT => c_landed o a n c L w ho hn hm hr hok hT
  have hz : landT o L + landC o L = 0 := by unfold landT landC; rw [if_neg he, if_neg he]; rfl
  rw [hz] at HLa
  have HSp := fun w hr hT => c_csplit o.term a n c L w hn hr hok hT hsp
  unfold CSplitOk at HSp
  have HR := Lib.hid hr
  have HT := Lib.hid hT
  have BK := Lib.hid (Blk.new w 33 #[.string o.nu, .string o.se, .string o.bu, .string o.cu, .string o.fr, .string o.tt, .int .i64 o.term, .slice o.la o.ln o.lc])
  have HB0 := Lib.hid ((Below.refl w.heap.size w).alloc (Nat.le_refl _) (.cells #[.string o.nu, .string o.se, .string o.bu, .string o.cu, .string o.fr, .string o.tt, .int .i64 o.term, .slice o.la o.ln o.lc] 33))
  have HO := Lib.hid hO
  clear hr hT hok hn ho hO hz
  unfold Ord.v at HLa ⊢
  generalize landE o L = E at *
  have t4 : (E != 0) = true := by simpa using he
  have HEe := Lib.hid he
  clear he hsp
  generalize ofC o.term true L = X at *
  generalize ofC o.term false L = Y at *
  have HLa := Lib.hid HLa
  have HSp := Lib.hid HSp
  go_enter Tryd.func9, Tryd.ntmps9
  go_wp2_with fail
  refine (c_awake20 _ (HT.out.below HB0.out)).mono ?_
  rintro e w1 ⟨rfl, hbx⟩
  have HB1 := Lib.hid (HB0.out.trans (hbx.mono HB0.out.size))
  have BK1 := Lib.hid (BK.out.below hbx BK.out.lt)
  clear hbx
  have k0 := BK1.out.cell 0 rfl
  have k1 := BK1.out.cell 1 rfl
  have k2 := BK1.out.cell 2 rfl
  have k3 := BK1.out.cell 3 rfl
  have k4 := BK1.out.cell 4 rfl
  have k5 := BK1.out.cell 5 rfl
  have k6 := BK1.out.cell 6 rfl
  have k7 := BK1.out.cell 7 rfl
  go_wp2_with fail
  refine (HLa.out _ (HO.out.below HB1.out) (HR.out.below HB1.out) (HT.out.below HB1.out)).mono ?_
  rintro e w2 ⟨rfl, hbx⟩
  have HB2 := Lib.hid (HB1.out.trans (hbx.mono HB1.out.size))
  have BK2 := Lib.hid (BK1.out.below hbx BK1.out.lt)
  clear hbx
  clear k0 k1 k2 k3 k4 k5 k6 k7
  have k6 := BK2.out.cell 6 rfl
  go_wp2_with fail
  refine (HSp.out _ (HR.out.below HB2.out) (HT.out.below HB2.out)).mono ?_
  rintro e w3 ⟨A1, c1, A2, c2, rfl, hr1, hr2, hbx⟩
  have HB3 := Lib.hid (HB2.out.trans (hbx.mono HB2.out.size))
  clear hbx
  clear hr1 hr2
  clear k6
  go_wp2_with fail
  go_ret
  exact ⟨rfl, HB3.out⟩

set_option maxRecDepth 100000 in
set_option maxHeartbeats 6400000 in
theorem l_clater_bad2 (o : Ord) (a : Option Addr) (n c : Nat) (L : List Cst) (t : Int) (w : World) (ho : o.ln ≤ 1048576 → OrdOk w o) (hn : L.length = n) (hm : n ≤ 9223372036854775807) (hr : Rd w a (flat cC L)) (hok : ∀ x ∈ L, CstOk x) (hT : Tab w) (hs : n ≤ 60) (hfew : o.ln ≤ 70) (he : landE o L ≠ 0) (hsp : splitE o.term L ≠ 0) :
    Calls Tryd.prog 9 #[o.v, .slice a n c, .int .i64 t] w fun e w' => e = .returned (.bool true) ∧ Below w.heap.size w w' := by
  have hO : OrdOk w o := ho (by omega)
  have hlni : (o.ln : Int) ≤ 70 := by omega
  have HLa := fun w ho hr hT => c_landed o a n c L w ho hn hm hr hok hT
  have hz : landT o L + landC o L = 0 := by unfold landT landC; rw [if_neg he, if_neg he]; rfl
  rw [hz] at HLa
  have HSp := fun w hr hT => c_csplit_bad o.term a n c L w hn hm hr hok hT hsp
  have HR := Lib.hid hr
  have HT := Lib.hid hT
  have BK := Lib.hid (Blk.new w 33 #[.string o.nu, .string o.se, .string o.bu, .string o.cu, .string o.fr, .string o.tt, .int .i64 o.term, .slice o.la o.ln o.lc])
  have HB0 := Lib.hid ((Below.refl w.heap.size w).alloc (Nat.le_refl _) (.cells #[.string o.nu, .string o.se, .string o.bu, .string o.cu, .string o.fr, .string o.tt, .int .i64 o.term, .slice o.la o.ln o.lc] 33))
  have HO := Lib.hid hO
  clear hr hT hok hn ho hO hz
  unfold Ord.v at HLa ⊢
  generalize landE o L = E at *
  have t4 : (E != 0) = true := by simpa using he
  have HEe := Lib.hid he
  clear he hsp
  generalize splitE o.term L = E2 at *
  have HLa := Lib.hid HLa
  have HSp := Lib.hid HSp
  go_enter Tryd.func9, Tryd.ntmps9
  go_wp2_with fail
  refine (c_awake20 _ (HT.out.below HB0.out)).mono ?_
  rintro e w1 ⟨rfl, hbx⟩
  have HB1 := Lib.hid (HB0.out.trans (hbx.mono HB0.out.size))
  have BK1 := Lib.hid (BK.out.below hbx BK.out.lt)
  clear hbx
  have k0 := BK1.out.cell 0 rfl
  have k1 := BK1.out.cell 1 rfl
  have k2 := BK1.out.cell 2 rfl
  have k3 := BK1.out.cell 3 rfl
  have k4 := BK1.out.cell 4 rfl
  have k5 := BK1.out.cell 5 rfl
  have k6 := BK1.out.cell 6 rfl
  have k7 := BK1.out.cell 7 rfl
  go_wp2_with fail
  refine (HLa.out _ (HO.out.below HB1.out) (HR.out.below HB1.out) (HT.out.below HB1.out)).mono ?_
  rintro e w2 ⟨rfl, hbx⟩
  have HB2 := Lib.hid (HB1.out.trans (hbx.mono HB1.out.size))
  have BK2 := Lib.hid (BK1.out.below hbx BK1.out.lt)
  clear hbx
  clear k0 k1 k2 k3 k4 k5 k6 k7
  have k6 := BK2.out.cell 6 rfl
  go_wp2_with fail
  refine (HSp.out _ (HR.out.below HB2.out) (HT.out.below HB2.out)).mono ?_
  rintro e w3 ⟨rfl, hbx⟩
  have HB3 := Lib.hid (HB2.out.trans (hbx.mono HB2.out.size))
  clear hbx
  clear k6
  go_wp2_with fail
  go_ret
  exact ⟨rfl, HB3.out⟩

theorem landE_zero' {o : Ord} {L : List Cst} (h : landE o L = 0) : splitE o.term L = 0 := (landE_zero h).2.1

set_option maxRecDepth 100000 in
set_option maxHeartbeats 6400000 in
theorem l_clater_ok (o : Ord) (a : Option Addr) (n c : Nat) (L : List Cst) (t : Int) (w : World) (ho : o.ln ≤ 1048576 → OrdOk w o) (hn : L.length = n) (hm : n ≤ 9223372036854775807) (hr : Rd w a (flat cC L)) (hok : ∀ x ∈ L, CstOk x) (hT : Tab w) (hs : n ≤ 60) (hfew : o.ln ≤ 70) (he : landE o L = 0) :
    Calls Tryd.prog 9 #[o.v, .slice a n c, .int .i64 t] w fun e w' => e = .returned (.bool true) ∧ Below w.heap.size w w' := by
  have hO : OrdOk w o := ho (by omega)
  have hlni : (o.ln : Int) ≤ 70 := by omega
  have HLa := fun w ho hr hT => c_landed o a n c L w ho hn hm hr hok hT
  rw [he] at HLa
  obtain ⟨i1, i2, i3⟩ := land_idem he
  have hbl := ofC_len o.term true L
  have HLx := fun A c' w ho hr hT => c_landed o A (ofC o.term true L).length c' (ofC o.term true L) w ho rfl (by omega) hr (ofC_ok hok) hT
  rw [i1, i2, i3] at HLx
  have hsp := (landE_zero' he)
  have htm := (splitE_zero hsp).1
  have HSp := fun w hr hT => c_csplit o.term a n c L w hn hr hok hT hsp
  unfold CSplitOk at HSp
  have HLp := fun w ho hr hT => c_landed (o.by t) a n c L w ho hn hm hr hok hT
  have HCh := fun w hr hT => c_change o.term t a n c L w hn hm hr hok hT
  have hby : landE (o.by t) L = 0 → chE o.term t L = 0 → landT (o.by t) L + landC (o.by t) L = landT o L + landC o L + chN o.term t L := fun h2 h3 => land_by he h2 h3
  have hneg : chE o.term t L = 0 → tcost o.term ≤ tcost t → chN o.term t L ≤ 0 := fun h2 h3 => chN_neg h2 h3
  have htt : chE o.term t L = 0 → termB t = true := fun h => (splitE_zero (chE_facts h).2.1).1
  have b1 := land_bd o L
  have b2 := chN_bd o.term t L
  have HR := Lib.hid hr
  have HT := Lib.hid hT
  have BK := Lib.hid (Blk.new w 33 #[.string o.nu, .string o.se, .string o.bu, .string o.cu, .string o.fr, .string o.tt, .int .i64 o.term, .slice o.la o.ln o.lc])
  have HB0 := Lib.hid ((Below.refl w.heap.size w).alloc (Nat.le_refl _) (.cells #[.string o.nu, .string o.se, .string o.bu, .string o.cu, .string o.fr, .string o.tt, .int .i64 o.term, .slice o.la o.ln o.lc] 33))
  have HO := Lib.hid hO
  clear hr hT hok hn ho hO i1 i2 i3 hsp he hbl
  have hOb : ∀ w, OrdOk w o → OrdOk w (o.by t) := fun w h => h.by t
  have HOb := Lib.hid hOb
  clear hOb
  unfold Ord.v at HLa HLx HLp ⊢
  have HLp := fun (w : World) ho hr hT => (show Calls Tryd.prog 15 #[.agg #[.string o.nu, .string o.se, .string o.bu, .string o.cu, .string o.fr, .string o.tt, .int .i64 t, .slice o.la o.ln o.lc], .slice a n c] w _ from HLp w ho hr hT)
  generalize landT (o.by t) L + landC (o.by t) L = NP at *
  generalize landE (o.by t) L = EP at *
  generalize landT o L + landC o L = N at *
  generalize chN o.term t L = CN at *
  generalize chE o.term t L = CE at *
  generalize ofC o.term true L = X at *
  generalize ofC o.term false L = Y at *
  obtain ⟨b1a, b1b⟩ := b1
  obtain ⟨b2a, b2b⟩ := b2
  have e1 : IntKind.i64.wrap (N + CN) = N + CN := IntWalk.i64_in _ (by omega)
  have HCo := Lib.hid (fun w => c_rtermcost o.term w htm)
  have HTt := Lib.hid htt
  have HBy := Lib.hid hby
  have HNeg := Lib.hid hneg
  clear htm htt hby hneg
  have HLa := Lib.hid HLa
  have HLx := Lib.hid HLx
  have HSp := Lib.hid HSp
  have HLp := Lib.hid HLp
  have HCh := Lib.hid HCh
  by_cases hce : CE = 0
  · subst hce
    have htm2 := HTt.out rfl
    have HCt := Lib.hid (fun w => c_rtermcost t w htm2)
    have HNe := Lib.hid (HNeg.out rfl)
    have HB' := Lib.hid (fun h => HBy.out h rfl)
    clear htm2 HNeg HBy HTt
    generalize tcost t = ct at *
    generalize tcost o.term = co at *
    by_cases hle : co ≤ ct
    · have t7 : decide (co ≤ ct) = true := decide_eq_true hle
      have t8 : decide (0 < CN) = false := decide_eq_false (by have := HNe.out hle; omega)
      have HLe := Lib.hid hle
      clear hle
      by_cases hep : EP = 0
      · have hnp : NP = N + CN := HB'.out hep
        have t9 : (NP == N + CN) = true := by simpa using hnp
        subst hep
        have HN := Lib.hid hnp
        clear hnp
        go_enter Tryd.func9, Tryd.ntmps9
        go_wp2_with fail
        refine (c_awake20 _ (HT.out.below HB0.out)).mono ?_
        rintro e w1 ⟨rfl, hbx⟩
        have HB1 := Lib.hid (HB0.out.trans (hbx.mono HB0.out.size))
        have BK1 := Lib.hid (BK.out.below hbx BK.out.lt)
        clear hbx
        have k0 := BK1.out.cell 0 rfl
        have k1 := BK1.out.cell 1 rfl
        have k2 := BK1.out.cell 2 rfl
        have k3 := BK1.out.cell 3 rfl
        have k4 := BK1.out.cell 4 rfl
        have k5 := BK1.out.cell 5 rfl
        have k6 := BK1.out.cell 6 rfl
        have k7 := BK1.out.cell 7 rfl
        go_wp2_with fail
        refine (HLa.out _ (HO.out.below HB1.out) (HR.out.below HB1.out) (HT.out.below HB1.out)).mono ?_
        rintro e w2 ⟨rfl, hbx⟩
        have HB2 := Lib.hid (HB1.out.trans (hbx.mono HB1.out.size))
        have BK2 := Lib.hid (BK1.out.below hbx BK1.out.lt)
        clear hbx
        clear k0 k1 k2 k3 k4 k5 k6 k7
        have k6 := BK2.out.cell 6 rfl
        go_wp2_with fail
        refine (HSp.out _ (HR.out.below HB2.out) (HT.out.below HB2.out)).mono ?_
        rintro e w3 ⟨A1, c1, A2, c2, rfl, hr1, hr2, hbx⟩
        have HB3 := Lib.hid (HB2.out.trans (hbx.mono HB2.out.size))
        have BK3 := Lib.hid (BK2.out.below hbx BK2.out.lt)
        have HP2 := Lib.hid hr2
        clear hr1 hr2
        clear hbx
        clear k6
        have k0 := BK3.out.cell 0 rfl
        have k1 := BK3.out.cell 1 rfl
        have k2 := BK3.out.cell 2 rfl
        have k3 := BK3.out.cell 3 rfl
        have k4 := BK3.out.cell 4 rfl
        have k5 := BK3.out.cell 5 rfl
        have k6 := BK3.out.cell 6 rfl
        have k7 := BK3.out.cell 7 rfl
        go_wp2_with fail
        refine (HLx.out _ _ _ (HO.out.below HB3.out) HP2.out (HT.out.below HB3.out)).mono ?_
        rintro e w4 ⟨rfl, hbx⟩
        have HB4 := Lib.hid (HB3.out.trans (hbx.mono HB3.out.size))
        have BK4 := Lib.hid (BK3.out.below hbx BK3.out.lt)
        clear hbx
        clear k0 k1 k2 k3 k4 k5 k6 k7
        have k0 := BK4.out.cell 0 rfl
        have k1 := BK4.out.cell 1 rfl
        have k2 := BK4.out.cell 2 rfl
        have k3 := BK4.out.cell 3 rfl
        have k4 := BK4.out.cell 4 rfl
        have k5 := BK4.out.cell 5 rfl
        have k6 := BK4.out.cell 6 rfl
        have k7 := BK4.out.cell 7 rfl
        have hz4 := HB4.out.size
        have HB5 := Lib.hid (HB4.out.alloc HB4.out.size (.cells #[.string o.nu, .string o.se, .string o.bu, .string o.cu, .string o.fr, .string o.tt, .int .i64 t, .slice o.la o.ln o.lc] 33))
        have BK5 := Lib.hid (BK4.out.alloc (.cells #[.string o.nu, .string o.se, .string o.bu, .string o.cu, .string o.fr, .string o.tt, .int .i64 t, .slice o.la o.ln o.lc] 33))
        go_wp2_with fail
        generalize hw5 : (w4.alloc (.cells #[.string o.nu, .string o.se, .string o.bu, .string o.cu, .string o.fr, .string o.tt, .int .i64 t, .slice o.la o.ln o.lc] 33)) = w5 at *
        clear k0 k1 k2 k3 k4 k5 k6 k7
        clear hw5
        refine (HLp.out _ (HOb.out _ (HO.out.below HB5.out)) (HR.out.below HB5.out) (HT.out.below HB5.out)).mono ?_
        rintro e w6 ⟨rfl, hbx⟩
        have HB6 := Lib.hid (HB5.out.trans (hbx.mono HB5.out.size))
        have BK6 := Lib.hid (BK5.out.below hbx BK5.out.lt)
        clear hbx
        have k6 := BK6.out.cell 6 rfl
        go_wp2_with fail
        refine (HCh.out _ (HR.out.below HB6.out) (HT.out.below HB6.out)).mono ?_
        rintro e w7 ⟨rfl, hbx⟩
        have HB7 := Lib.hid (HB6.out.trans (hbx.mono HB6.out.size))
        have BK7 := Lib.hid (BK6.out.below hbx BK6.out.lt)
        clear hbx
        clear k6
        have k6 := BK7.out.cell 6 rfl
        have hgl := BK7.out.lt
        go_wp2
        have HBcur := Lib.hid HB7.out.drew
        have BKcur := Lib.hid BK7.out.drew
        go_region_held3 (fun wx => wx.cell? ⟨w.heap.size, 6, none⟩ = some (.int .i64 o.term)) (go_keep) ((go_at_call 24; (first | (with_reducible refine (HCt.out _).mono ?_) | (with_reducible refine (HCo.out _).mono ?_)); rintro e w8 ⟨rfl, hb8⟩; have HBn := Lib.hid (HBcur.out.trans (hb8.mono HBcur.out.size)); have BKn := Lib.hid (BKcur.out.below hb8 BKcur.out.lt); have j6 := BKn.out.cell 6 rfl; clear HBcur BKcur hb8; have HBcur := HBn; have BKcur := BKn; clear HBn BKn))
        all_goals
          go_wp2
          go_ret
          exact ⟨rfl, HBcur.out⟩
      · have t9 : (EP != 0) = true := by simpa using hep
        have HN := Lib.hid hep
        clear hep
        go_enter Tryd.func9, Tryd.ntmps9
        go_wp2_with fail
        refine (c_awake20 _ (HT.out.below HB0.out)).mono ?_
        rintro e w1 ⟨rfl, hbx⟩
        have HB1 := Lib.hid (HB0.out.trans (hbx.mono HB0.out.size))
        have BK1 := Lib.hid (BK.out.below hbx BK.out.lt)
        clear hbx
        have k0 := BK1.out.cell 0 rfl
        have k1 := BK1.out.cell 1 rfl
        have k2 := BK1.out.cell 2 rfl
        have k3 := BK1.out.cell 3 rfl
        have k4 := BK1.out.cell 4 rfl
        have k5 := BK1.out.cell 5 rfl
        have k6 := BK1.out.cell 6 rfl
        have k7 := BK1.out.cell 7 rfl
        go_wp2_with fail
        refine (HLa.out _ (HO.out.below HB1.out) (HR.out.below HB1.out) (HT.out.below HB1.out)).mono ?_
        rintro e w2 ⟨rfl, hbx⟩
        have HB2 := Lib.hid (HB1.out.trans (hbx.mono HB1.out.size))
        have BK2 := Lib.hid (BK1.out.below hbx BK1.out.lt)
        clear hbx
        clear k0 k1 k2 k3 k4 k5 k6 k7
        have k6 := BK2.out.cell 6 rfl
        go_wp2_with fail
        refine (HSp.out _ (HR.out.below HB2.out) (HT.out.below HB2.out)).mono ?_
        rintro e w3 ⟨A1, c1, A2, c2, rfl, hr1, hr2, hbx⟩
        have HB3 := Lib.hid (HB2.out.trans (hbx.mono HB2.out.size))
        have BK3 := Lib.hid (BK2.out.below hbx BK2.out.lt)
        have HP2 := Lib.hid hr2
        clear hr1 hr2
        clear hbx
        clear k6
        have k0 := BK3.out.cell 0 rfl
        have k1 := BK3.out.cell 1 rfl
        have k2 := BK3.out.cell 2 rfl
        have k3 := BK3.out.cell 3 rfl
        have k4 := BK3.out.cell 4 rfl
        have k5 := BK3.out.cell 5 rfl
        have k6 := BK3.out.cell 6 rfl
        have k7 := BK3.out.cell 7 rfl
        go_wp2_with fail
        refine (HLx.out _ _ _ (HO.out.below HB3.out) HP2.out (HT.out.below HB3.out)).mono ?_
        rintro e w4 ⟨rfl, hbx⟩
        have HB4 := Lib.hid (HB3.out.trans (hbx.mono HB3.out.size))
        have BK4 := Lib.hid (BK3.out.below hbx BK3.out.lt)
        clear hbx
        clear k0 k1 k2 k3 k4 k5 k6 k7
        have k0 := BK4.out.cell 0 rfl
        have k1 := BK4.out.cell 1 rfl
        have k2 := BK4.out.cell 2 rfl
        have k3 := BK4.out.cell 3 rfl
        have k4 := BK4.out.cell 4 rfl
        have k5 := BK4.out.cell 5 rfl
        have k6 := BK4.out.cell 6 rfl
        have k7 := BK4.out.cell 7 rfl
        have hz4 := HB4.out.size
        have HB5 := Lib.hid (HB4.out.alloc HB4.out.size (.cells #[.string o.nu, .string o.se, .string o.bu, .string o.cu, .string o.fr, .string o.tt, .int .i64 t, .slice o.la o.ln o.lc] 33))
        have BK5 := Lib.hid (BK4.out.alloc (.cells #[.string o.nu, .string o.se, .string o.bu, .string o.cu, .string o.fr, .string o.tt, .int .i64 t, .slice o.la o.ln o.lc] 33))
        go_wp2_with fail
        generalize hw5 : (w4.alloc (.cells #[.string o.nu, .string o.se, .string o.bu, .string o.cu, .string o.fr, .string o.tt, .int .i64 t, .slice o.la o.ln o.lc] 33)) = w5 at *
        clear k0 k1 k2 k3 k4 k5 k6 k7
        clear hw5
        refine (HLp.out _ (HOb.out _ (HO.out.below HB5.out)) (HR.out.below HB5.out) (HT.out.below HB5.out)).mono ?_
        rintro e w6 ⟨rfl, hbx⟩
        have HB6 := Lib.hid (HB5.out.trans (hbx.mono HB5.out.size))
        have BK6 := Lib.hid (BK5.out.below hbx BK5.out.lt)
        clear hbx
        have k6 := BK6.out.cell 6 rfl
        go_wp2_with fail
        refine (HCh.out _ (HR.out.below HB6.out) (HT.out.below HB6.out)).mono ?_
        rintro e w7 ⟨rfl, hbx⟩
        have HB7 := Lib.hid (HB6.out.trans (hbx.mono HB6.out.size))
        have BK7 := Lib.hid (BK6.out.below hbx BK6.out.lt)
        clear hbx
        clear k6
        have k6 := BK7.out.cell 6 rfl
        have hgl := BK7.out.lt
        go_wp2
        have HBcur := Lib.hid HB7.out.drew
        have BKcur := Lib.hid BK7.out.drew
        go_region_held3 (fun wx => wx.cell? ⟨w.heap.size, 6, none⟩ = some (.int .i64 o.term)) (go_keep) ((go_at_call 24; (first | (with_reducible refine (HCt.out _).mono ?_) | (with_reducible refine (HCo.out _).mono ?_)); rintro e w8 ⟨rfl, hb8⟩; have HBn := Lib.hid (HBcur.out.trans (hb8.mono HBcur.out.size)); have BKn := Lib.hid (BKcur.out.below hb8 BKcur.out.lt); have j6 := BKn.out.cell 6 rfl; clear HBcur BKcur hb8; have HBcur := HBn; have BKcur := BKn; clear HBn BKn))
        all_goals
          go_wp2
          go_ret
          exact ⟨rfl, HBcur.out⟩
    · have t7 : decide (co ≤ ct) = false := decide_eq_false hle
      have HLe := Lib.hid hle
      clear hle
      by_cases hep : EP = 0
      · have hnp : NP = N + CN := HB'.out hep
        have t9 : (NP == N + CN) = true := by simpa using hnp
        subst hep
        have HN := Lib.hid hnp
        clear hnp
        go_enter Tryd.func9, Tryd.ntmps9
        go_wp2_with fail
        refine (c_awake20 _ (HT.out.below HB0.out)).mono ?_
        rintro e w1 ⟨rfl, hbx⟩
        have HB1 := Lib.hid (HB0.out.trans (hbx.mono HB0.out.size))
        have BK1 := Lib.hid (BK.out.below hbx BK.out.lt)
        clear hbx
        have k0 := BK1.out.cell 0 rfl
        have k1 := BK1.out.cell 1 rfl
        have k2 := BK1.out.cell 2 rfl
        have k3 := BK1.out.cell 3 rfl
        have k4 := BK1.out.cell 4 rfl
        have k5 := BK1.out.cell 5 rfl
        have k6 := BK1.out.cell 6 rfl
        have k7 := BK1.out.cell 7 rfl
        go_wp2_with fail
        refine (HLa.out _ (HO.out.below HB1.out) (HR.out.below HB1.out) (HT.out.below HB1.out)).mono ?_
        rintro e w2 ⟨rfl, hbx⟩
        have HB2 := Lib.hid (HB1.out.trans (hbx.mono HB1.out.size))
        have BK2 := Lib.hid (BK1.out.below hbx BK1.out.lt)
        clear hbx
        clear k0 k1 k2 k3 k4 k5 k6 k7
        have k6 := BK2.out.cell 6 rfl
        go_wp2_with fail
        refine (HSp.out _ (HR.out.below HB2.out) (HT.out.below HB2.out)).mono ?_
        rintro e w3 ⟨A1, c1, A2, c2, rfl, hr1, hr2, hbx⟩
        have HB3 := Lib.hid (HB2.out.trans (hbx.mono HB2.out.size))
        have BK3 := Lib.hid (BK2.out.below hbx BK2.out.lt)
        have HP2 := Lib.hid hr2
        clear hr1 hr2
        clear hbx
        clear k6
        have k0 := BK3.out.cell 0 rfl
        have k1 := BK3.out.cell 1 rfl
        have k2 := BK3.out.cell 2 rfl
        have k3 := BK3.out.cell 3 rfl
        have k4 := BK3.out.cell 4 rfl
        have k5 := BK3.out.cell 5 rfl
        have k6 := BK3.out.cell 6 rfl
        have k7 := BK3.out.cell 7 rfl
        go_wp2_with fail
        refine (HLx.out _ _ _ (HO.out.below HB3.out) HP2.out (HT.out.below HB3.out)).mono ?_
        rintro e w4 ⟨rfl, hbx⟩
        have HB4 := Lib.hid (HB3.out.trans (hbx.mono HB3.out.size))
        have BK4 := Lib.hid (BK3.out.below hbx BK3.out.lt)
        clear hbx
        clear k0 k1 k2 k3 k4 k5 k6 k7
        have k0 := BK4.out.cell 0 rfl
        have k1 := BK4.out.cell 1 rfl
        have k2 := BK4.out.cell 2 rfl
        have k3 := BK4.out.cell 3 rfl
        have k4 := BK4.out.cell 4 rfl
        have k5 := BK4.out.cell 5 rfl
        have k6 := BK4.out.cell 6 rfl
        have k7 := BK4.out.cell 7 rfl
        have hz4 := HB4.out.size
        have HB5 := Lib.hid (HB4.out.alloc HB4.out.size (.cells #[.string o.nu, .string o.se, .string o.bu, .string o.cu, .string o.fr, .string o.tt, .int .i64 t, .slice o.la o.ln o.lc] 33))
        have BK5 := Lib.hid (BK4.out.alloc (.cells #[.string o.nu, .string o.se, .string o.bu, .string o.cu, .string o.fr, .string o.tt, .int .i64 t, .slice o.la o.ln o.lc] 33))
        go_wp2_with fail
        generalize hw5 : (w4.alloc (.cells #[.string o.nu, .string o.se, .string o.bu, .string o.cu, .string o.fr, .string o.tt, .int .i64 t, .slice o.la o.ln o.lc] 33)) = w5 at *
        clear k0 k1 k2 k3 k4 k5 k6 k7
        clear hw5
        refine (HLp.out _ (HOb.out _ (HO.out.below HB5.out)) (HR.out.below HB5.out) (HT.out.below HB5.out)).mono ?_
        rintro e w6 ⟨rfl, hbx⟩
        have HB6 := Lib.hid (HB5.out.trans (hbx.mono HB5.out.size))
        have BK6 := Lib.hid (BK5.out.below hbx BK5.out.lt)
        clear hbx
        have k6 := BK6.out.cell 6 rfl
        go_wp2_with fail
        refine (HCh.out _ (HR.out.below HB6.out) (HT.out.below HB6.out)).mono ?_
        rintro e w7 ⟨rfl, hbx⟩
        have HB7 := Lib.hid (HB6.out.trans (hbx.mono HB6.out.size))
        have BK7 := Lib.hid (BK6.out.below hbx BK6.out.lt)
        clear hbx
        clear k6
        have k6 := BK7.out.cell 6 rfl
        have hgl := BK7.out.lt
        go_wp2
        have HBcur := Lib.hid HB7.out.drew
        have BKcur := Lib.hid BK7.out.drew
        refine wp_region_noPanic ?_
        refine wp_region_held_drew (S := fun wx => wx.cell? ⟨w.heap.size, 6, none⟩ = some (.int .i64 o.term)) (by kernel_rfl) ?_ (fun hHeld => ?_)
        focus ((try dsimp only); go_keep)
        refine wpAnyH_take (i := 0) (oi := ⟨some 78, _, _, _, _, _⟩) (v := .int .i64 0) rfl (by kernel_rfl) (by kernel_rfl) (by kernel_rfl) (fun _ _ _ h => h) (Or.inl ⟨by rfl, ?_⟩) (by assumption) ?_
        focus (intro w hSw; (try dsimp only at hSw); go_simp; try with_reducible rfl)
        try simp only [Act.put, List.setIfInBounds_toArray, List.set_cons_zero, List.set_cons_succ]
        refine wpAnyH_take (i := 1) (oi := ⟨some 79, _, _, _, _, _⟩) (v := .bool true) rfl (by kernel_rfl) (by kernel_rfl) (by kernel_rfl) (fun _ _ _ h => h) (Or.inl ⟨by rfl, ?_⟩) (by assumption) ?_
        focus (intro w hSw; (try dsimp only at hSw); go_simp; try with_reducible rfl)
        try simp only [Act.put, List.setIfInBounds_toArray, List.set_cons_zero, List.set_cons_succ]
        refine wpAnyH_take (i := 2) (oi := ⟨some 80, _, _, _, _, _⟩) (v := .bool true) rfl (by kernel_rfl) (by kernel_rfl) (by kernel_rfl) (fun _ _ _ h => h) (Or.inl ⟨by rfl, ?_⟩) (by assumption) ?_
        focus (intro w hSw; (try dsimp only at hSw); go_simp; try with_reducible rfl)
        try simp only [Act.put, List.setIfInBounds_toArray, List.set_cons_zero, List.set_cons_succ]
        refine wpAnyH_take (i := 3) (oi := ⟨some 81, _, _, _, _, _⟩) (v := .int .i64 t) rfl (by kernel_rfl) (by kernel_rfl) (by kernel_rfl) (fun _ _ _ h => h) (Or.inl ⟨by rfl, ?_⟩) (by assumption) ?_
        focus (intro w hSw; (try dsimp only at hSw); go_simp; try with_reducible rfl)
        try simp only [Act.put, List.setIfInBounds_toArray, List.set_cons_zero, List.set_cons_succ]
        refine wpAnyH_take (i := 5) (oi := ⟨some 83, _, _, _, _, _⟩) (v := .pointer (some ⟨w.heap.size, 6, none⟩)) rfl (by kernel_rfl) (by kernel_rfl) (by kernel_rfl) (fun _ _ _ h => h) (Or.inl ⟨by rfl, ?_⟩) (by assumption) ?_
        focus (intro w hSw; (try dsimp only at hSw); go_simp; try with_reducible rfl)
        try simp only [Act.put, List.setIfInBounds_toArray, List.set_cons_zero, List.set_cons_succ]
        refine wpAnyH_take (i := 6) (oi := ⟨some 84, _, _, _, _, _⟩) (v := .int .i64 o.term) rfl (by kernel_rfl) (by kernel_rfl) (by kernel_rfl) (fun _ _ _ h => h) (Or.inl ⟨by rfl, ?_⟩) (by assumption) ?_
        focus (intro w hSw; (try dsimp only at hSw); go_simp; try with_reducible rfl)
        try simp only [Act.put, List.setIfInBounds_toArray, List.set_cons_zero, List.set_cons_succ]
        refine wpAnyH_ready (rs := [4]) (by kernel_rfl) (by simp) ?_
        refine AllReadyH.cons (o := ⟨some 82, _, _, _, _, _⟩) rfl (fun K hK => ?_) ?_
        focus
          go_simp
          (go_at_call 24; (first | (with_reducible refine (HCt.out _).mono ?_) | (with_reducible refine (HCo.out _).mono ?_)); rintro e w8 ⟨rfl, hb8⟩; have HBn := Lib.hid (HBcur.out.trans (hb8.mono HBcur.out.size)); have BKn := Lib.hid (BKcur.out.below hb8 BKcur.out.lt); have j6 := BKn.out.cell 6 rfl; clear HBcur BKcur hb8; have HBcur := HBn; have BKcur := BKn; clear HBn BKn)
          refine hK.out _ _ ?_ (fun hHeld => ?_)
          focus ((try dsimp only); go_keep)
          clear hK K
          try simp only [Act.put, List.setIfInBounds_toArray, List.set_cons_zero, List.set_cons_succ]
          refine wpAnyH_ready (rs := [7]) (by kernel_rfl) (by simp) ?_
          refine AllReadyH.cons (o := ⟨some 85, _, _, _, _, _⟩) rfl (fun K hK => ?_) ?_
          focus
            go_simp
            (go_at_call 24; (first | (with_reducible refine (HCt.out _).mono ?_) | (with_reducible refine (HCo.out _).mono ?_)); rintro e w8 ⟨rfl, hb8⟩; have HBn := Lib.hid (HBcur.out.trans (hb8.mono HBcur.out.size)); have BKn := Lib.hid (BKcur.out.below hb8 BKcur.out.lt); have j6 := BKn.out.cell 6 rfl; clear HBcur BKcur hb8; have HBcur := HBn; have BKcur := BKn; clear HBn BKn)
            refine hK.out _ _ ?_ (fun hHeld => ?_)
            focus ((try dsimp only); go_keep)
            clear hK K
            try simp only [Act.put, List.setIfInBounds_toArray, List.set_cons_zero, List.set_cons_succ]
            refine wpAnyH_take (i := 8) (oi := ⟨some 86, _, _, _, _, _⟩) (v := .bool false) rfl (by kernel_rfl) (by kernel_rfl) (by kernel_rfl) (fun _ _ _ h => h) (Or.inl ⟨by rfl, ?_⟩) (by assumption) ?_
            focus (intro w hSw; (try dsimp only at hSw); go_simp; try with_reducible rfl)
            try simp only [Act.put, List.setIfInBounds_toArray, List.set_cons_zero, List.set_cons_succ]
            refine wpAnyH_take (i := 9) (oi := ⟨some 87, _, _, _, _, _⟩) (v := .bool false) rfl (by kernel_rfl) (by kernel_rfl) (by kernel_rfl) (fun _ _ _ h => h) (Or.inl ⟨by rfl, ?_⟩) (by assumption) ?_
            focus (intro w hSw; (try dsimp only at hSw); go_simp; try with_reducible rfl)
            try simp only [Act.put, List.setIfInBounds_toArray, List.set_cons_zero, List.set_cons_succ]
            refine wpAnyH_take (i := 10) (oi := ⟨some 88, _, _, _, _, _⟩) (v := .bool false) rfl (by kernel_rfl) (by kernel_rfl) (by kernel_rfl) (fun _ _ _ h => h) (Or.inl ⟨by rfl, ?_⟩) (by assumption) ?_
            focus (intro w hSw; (try dsimp only at hSw); go_simp; try with_reducible rfl)
            try simp only [Act.put, List.setIfInBounds_toArray, List.set_cons_zero, List.set_cons_succ]
            refine wpAnyH_take (i := 11) (oi := ⟨some 89, _, _, _, _, _⟩) (v := undef) rfl (by kernel_rfl) (by kernel_rfl) (by kernel_rfl) (fun _ _ _ h => h) (Or.inr ⟨by rfl, rfl⟩) (by assumption) ?_
            try simp only [Act.put, List.setIfInBounds_toArray, List.set_cons_zero, List.set_cons_succ]
            refine wpAnyH_take (i := 12) (oi := ⟨some 90, _, _, _, _, _⟩) (v := undef) rfl (by kernel_rfl) (by kernel_rfl) (by kernel_rfl) (fun _ _ _ h => h) (Or.inr ⟨by rfl, rfl⟩) (by assumption) ?_
            try simp only [Act.put, List.setIfInBounds_toArray, List.set_cons_zero, List.set_cons_succ]
            refine wpAnyH_take (i := 13) (oi := ⟨some 91, _, _, _, _, _⟩) (v := .bool false) rfl (by kernel_rfl) (by kernel_rfl) (by kernel_rfl) (fun _ _ _ h => h) (Or.inl ⟨by rfl, ?_⟩) (by assumption) ?_
            focus (intro w hSw; (try dsimp only at hSw); go_simp; try with_reducible rfl)
            try simp only [Act.put, List.setIfInBounds_toArray, List.set_cons_zero, List.set_cons_succ]
            refine wpAnyH_done (by kernel_rfl) ?_ _
            refine NoPanic.normal ?_
            go_wp2
            go_ret
            exact ⟨rfl, HBcur.out⟩
          exact AllReadyH.nil
        exact AllReadyH.nil
      · have t9 : (EP != 0) = true := by simpa using hep
        have HN := Lib.hid hep
        clear hep
        go_enter Tryd.func9, Tryd.ntmps9
        go_wp2_with fail
        refine (c_awake20 _ (HT.out.below HB0.out)).mono ?_
        rintro e w1 ⟨rfl, hbx⟩
        have HB1 := Lib.hid (HB0.out.trans (hbx.mono HB0.out.size))
        have BK1 := Lib.hid (BK.out.below hbx BK.out.lt)
        clear hbx
        have k0 := BK1.out.cell 0 rfl
        have k1 := BK1.out.cell 1 rfl
        have k2 := BK1.out.cell 2 rfl
        have k3 := BK1.out.cell 3 rfl
        have k4 := BK1.out.cell 4 rfl
        have k5 := BK1.out.cell 5 rfl
        have k6 := BK1.out.cell 6 rfl
        have k7 := BK1.out.cell 7 rfl
        go_wp2_with fail
        refine (HLa.out _ (HO.out.below HB1.out) (HR.out.below HB1.out) (HT.out.below HB1.out)).mono ?_
        rintro e w2 ⟨rfl, hbx⟩
        have HB2 := Lib.hid (HB1.out.trans (hbx.mono HB1.out.size))
        have BK2 := Lib.hid (BK1.out.below hbx BK1.out.lt)
        clear hbx
        clear k0 k1 k2 k3 k4 k5 k6 k7
        have k6 := BK2.out.cell 6 rfl
        go_wp2_with fail
        refine (HSp.out _ (HR.out.below HB2.out) (HT.out.below HB2.out)).mono ?_
        rintro e w3 ⟨A1, c1, A2, c2, rfl, hr1, hr2, hbx⟩
        have HB3 := Lib.hid (HB2.out.trans (hbx.mono HB2.out.size))
        have BK3 := Lib.hid (BK2.out.below hbx BK2.out.lt)
        have HP2 := Lib.hid hr2
        clear hr1 hr2
        clear hbx
        clear k6
        have k0 := BK3.out.cell 0 rfl
        have k1 := BK3.out.cell 1 rfl
        have k2 := BK3.out.cell 2 rfl
        have k3 := BK3.out.cell 3 rfl
        have k4 := BK3.out.cell 4 rfl
        have k5 := BK3.out.cell 5 rfl
        have k6 := BK3.out.cell 6 rfl
        have k7 := BK3.out.cell 7 rfl
        go_wp2_with fail
        refine (HLx.out _ _ _ (HO.out.below HB3.out) HP2.out (HT.out.below HB3.out)).mono ?_
        rintro e w4 ⟨rfl, hbx⟩
        have HB4 := Lib.hid (HB3.out.trans (hbx.mono HB3.out.size))
        have BK4 := Lib.hid (BK3.out.below hbx BK3.out.lt)
        clear hbx
        clear k0 k1 k2 k3 k4 k5 k6 k7
        have k0 := BK4.out.cell 0 rfl
        have k1 := BK4.out.cell 1 rfl
        have k2 := BK4.out.cell 2 rfl
        have k3 := BK4.out.cell 3 rfl
        have k4 := BK4.out.cell 4 rfl
        have k5 := BK4.out.cell 5 rfl
        have k6 := BK4.out.cell 6 rfl
        have k7 := BK4.out.cell 7 rfl
        have hz4 := HB4.out.size
        have HB5 := Lib.hid (HB4.out.alloc HB4.out.size (.cells #[.string o.nu, .string o.se, .string o.bu, .string o.cu, .string o.fr, .string o.tt, .int .i64 t, .slice o.la o.ln o.lc] 33))
        have BK5 := Lib.hid (BK4.out.alloc (.cells #[.string o.nu, .string o.se, .string o.bu, .string o.cu, .string o.fr, .string o.tt, .int .i64 t, .slice o.la o.ln o.lc] 33))
        go_wp2_with fail
        generalize hw5 : (w4.alloc (.cells #[.string o.nu, .string o.se, .string o.bu, .string o.cu, .string o.fr, .string o.tt, .int .i64 t, .slice o.la o.ln o.lc] 33)) = w5 at *
        clear k0 k1 k2 k3 k4 k5 k6 k7
        clear hw5
        refine (HLp.out _ (HOb.out _ (HO.out.below HB5.out)) (HR.out.below HB5.out) (HT.out.below HB5.out)).mono ?_
        rintro e w6 ⟨rfl, hbx⟩
        have HB6 := Lib.hid (HB5.out.trans (hbx.mono HB5.out.size))
        have BK6 := Lib.hid (BK5.out.below hbx BK5.out.lt)
        clear hbx
        have k6 := BK6.out.cell 6 rfl
        go_wp2_with fail
        refine (HCh.out _ (HR.out.below HB6.out) (HT.out.below HB6.out)).mono ?_
        rintro e w7 ⟨rfl, hbx⟩
        have HB7 := Lib.hid (HB6.out.trans (hbx.mono HB6.out.size))
        have BK7 := Lib.hid (BK6.out.below hbx BK6.out.lt)
        clear hbx
        clear k6
        have k6 := BK7.out.cell 6 rfl
        have hgl := BK7.out.lt
        go_wp2
        have HBcur := Lib.hid HB7.out.drew
        have BKcur := Lib.hid BK7.out.drew
        refine wp_region_noPanic ?_
        refine wp_region_held_drew (S := fun wx => wx.cell? ⟨w.heap.size, 6, none⟩ = some (.int .i64 o.term)) (by kernel_rfl) ?_ (fun hHeld => ?_)
        focus ((try dsimp only); go_keep)
        refine wpAnyH_take (i := 0) (oi := ⟨some 78, _, _, _, _, _⟩) (v := .int .i64 0) rfl (by kernel_rfl) (by kernel_rfl) (by kernel_rfl) (fun _ _ _ h => h) (Or.inl ⟨by rfl, ?_⟩) (by assumption) ?_
        focus (intro w hSw; (try dsimp only at hSw); go_simp; try with_reducible rfl)
        try simp only [Act.put, List.setIfInBounds_toArray, List.set_cons_zero, List.set_cons_succ]
        refine wpAnyH_take (i := 1) (oi := ⟨some 79, _, _, _, _, _⟩) (v := .bool true) rfl (by kernel_rfl) (by kernel_rfl) (by kernel_rfl) (fun _ _ _ h => h) (Or.inl ⟨by rfl, ?_⟩) (by assumption) ?_
        focus (intro w hSw; (try dsimp only at hSw); go_simp; try with_reducible rfl)
        try simp only [Act.put, List.setIfInBounds_toArray, List.set_cons_zero, List.set_cons_succ]
        refine wpAnyH_take (i := 2) (oi := ⟨some 80, _, _, _, _, _⟩) (v := .bool true) rfl (by kernel_rfl) (by kernel_rfl) (by kernel_rfl) (fun _ _ _ h => h) (Or.inl ⟨by rfl, ?_⟩) (by assumption) ?_
        focus (intro w hSw; (try dsimp only at hSw); go_simp; try with_reducible rfl)
        try simp only [Act.put, List.setIfInBounds_toArray, List.set_cons_zero, List.set_cons_succ]
        refine wpAnyH_take (i := 3) (oi := ⟨some 81, _, _, _, _, _⟩) (v := .int .i64 t) rfl (by kernel_rfl) (by kernel_rfl) (by kernel_rfl) (fun _ _ _ h => h) (Or.inl ⟨by rfl, ?_⟩) (by assumption) ?_
        focus (intro w hSw; (try dsimp only at hSw); go_simp; try with_reducible rfl)
        try simp only [Act.put, List.setIfInBounds_toArray, List.set_cons_zero, List.set_cons_succ]
        refine wpAnyH_take (i := 5) (oi := ⟨some 83, _, _, _, _, _⟩) (v := .pointer (some ⟨w.heap.size, 6, none⟩)) rfl (by kernel_rfl) (by kernel_rfl) (by kernel_rfl) (fun _ _ _ h => h) (Or.inl ⟨by rfl, ?_⟩) (by assumption) ?_
        focus (intro w hSw; (try dsimp only at hSw); go_simp; try with_reducible rfl)
        try simp only [Act.put, List.setIfInBounds_toArray, List.set_cons_zero, List.set_cons_succ]
        refine wpAnyH_take (i := 6) (oi := ⟨some 84, _, _, _, _, _⟩) (v := .int .i64 o.term) rfl (by kernel_rfl) (by kernel_rfl) (by kernel_rfl) (fun _ _ _ h => h) (Or.inl ⟨by rfl, ?_⟩) (by assumption) ?_
        focus (intro w hSw; (try dsimp only at hSw); go_simp; try with_reducible rfl)
        try simp only [Act.put, List.setIfInBounds_toArray, List.set_cons_zero, List.set_cons_succ]
        refine wpAnyH_ready (rs := [4]) (by kernel_rfl) (by simp) ?_
        refine AllReadyH.cons (o := ⟨some 82, _, _, _, _, _⟩) rfl (fun K hK => ?_) ?_
        focus
          go_simp
          (go_at_call 24; (first | (with_reducible refine (HCt.out _).mono ?_) | (with_reducible refine (HCo.out _).mono ?_)); rintro e w8 ⟨rfl, hb8⟩; have HBn := Lib.hid (HBcur.out.trans (hb8.mono HBcur.out.size)); have BKn := Lib.hid (BKcur.out.below hb8 BKcur.out.lt); have j6 := BKn.out.cell 6 rfl; clear HBcur BKcur hb8; have HBcur := HBn; have BKcur := BKn; clear HBn BKn)
          refine hK.out _ _ ?_ (fun hHeld => ?_)
          focus ((try dsimp only); go_keep)
          clear hK K
          try simp only [Act.put, List.setIfInBounds_toArray, List.set_cons_zero, List.set_cons_succ]
          refine wpAnyH_ready (rs := [7]) (by kernel_rfl) (by simp) ?_
          refine AllReadyH.cons (o := ⟨some 85, _, _, _, _, _⟩) rfl (fun K hK => ?_) ?_
          focus
            go_simp
            (go_at_call 24; (first | (with_reducible refine (HCt.out _).mono ?_) | (with_reducible refine (HCo.out _).mono ?_)); rintro e w8 ⟨rfl, hb8⟩; have HBn := Lib.hid (HBcur.out.trans (hb8.mono HBcur.out.size)); have BKn := Lib.hid (BKcur.out.below hb8 BKcur.out.lt); have j6 := BKn.out.cell 6 rfl; clear HBcur BKcur hb8; have HBcur := HBn; have BKcur := BKn; clear HBn BKn)
            refine hK.out _ _ ?_ (fun hHeld => ?_)
            focus ((try dsimp only); go_keep)
            clear hK K
            try simp only [Act.put, List.setIfInBounds_toArray, List.set_cons_zero, List.set_cons_succ]
            refine wpAnyH_take (i := 8) (oi := ⟨some 86, _, _, _, _, _⟩) (v := .bool false) rfl (by kernel_rfl) (by kernel_rfl) (by kernel_rfl) (fun _ _ _ h => h) (Or.inl ⟨by rfl, ?_⟩) (by assumption) ?_
            focus (intro w hSw; (try dsimp only at hSw); go_simp; try with_reducible rfl)
            try simp only [Act.put, List.setIfInBounds_toArray, List.set_cons_zero, List.set_cons_succ]
            refine wpAnyH_take (i := 9) (oi := ⟨some 87, _, _, _, _, _⟩) (v := .bool false) rfl (by kernel_rfl) (by kernel_rfl) (by kernel_rfl) (fun _ _ _ h => h) (Or.inl ⟨by rfl, ?_⟩) (by assumption) ?_
            focus (intro w hSw; (try dsimp only at hSw); go_simp; try with_reducible rfl)
            try simp only [Act.put, List.setIfInBounds_toArray, List.set_cons_zero, List.set_cons_succ]
            refine wpAnyH_take (i := 10) (oi := ⟨some 88, _, _, _, _, _⟩) (v := .bool false) rfl (by kernel_rfl) (by kernel_rfl) (by kernel_rfl) (fun _ _ _ h => h) (Or.inl ⟨by rfl, ?_⟩) (by assumption) ?_
            focus (intro w hSw; (try dsimp only at hSw); go_simp; try with_reducible rfl)
            try simp only [Act.put, List.setIfInBounds_toArray, List.set_cons_zero, List.set_cons_succ]
            refine wpAnyH_take (i := 11) (oi := ⟨some 89, _, _, _, _, _⟩) (v := undef) rfl (by kernel_rfl) (by kernel_rfl) (by kernel_rfl) (fun _ _ _ h => h) (Or.inr ⟨by rfl, rfl⟩) (by assumption) ?_
            try simp only [Act.put, List.setIfInBounds_toArray, List.set_cons_zero, List.set_cons_succ]
            refine wpAnyH_take (i := 12) (oi := ⟨some 90, _, _, _, _, _⟩) (v := undef) rfl (by kernel_rfl) (by kernel_rfl) (by kernel_rfl) (fun _ _ _ h => h) (Or.inr ⟨by rfl, rfl⟩) (by assumption) ?_
            try simp only [Act.put, List.setIfInBounds_toArray, List.set_cons_zero, List.set_cons_succ]
            refine wpAnyH_take (i := 13) (oi := ⟨some 91, _, _, _, _, _⟩) (v := .bool false) rfl (by kernel_rfl) (by kernel_rfl) (by kernel_rfl) (fun _ _ _ h => h) (Or.inl ⟨by rfl, ?_⟩) (by assumption) ?_
            focus (intro w hSw; (try dsimp only at hSw); go_simp; try with_reducible rfl)
            try simp only [Act.put, List.setIfInBounds_toArray, List.set_cons_zero, List.set_cons_succ]
            refine wpAnyH_done (by kernel_rfl) ?_ _
            refine NoPanic.normal ?_
            go_wp2
            go_ret
            exact ⟨rfl, HBcur.out⟩
          exact AllReadyH.nil
        exact AllReadyH.nil
  · have t5 : (CE == 0) = false := by simpa using hce
    have t6 : (CE != 0) = true := by simpa using hce
    have HCe := Lib.hid hce
    clear hce
    go_enter Tryd.func9, Tryd.ntmps9
    go_wp2_with fail
    refine (c_awake20 _ (HT.out.below HB0.out)).mono ?_
    rintro e w1 ⟨rfl, hbx⟩
    have HB1 := Lib.hid (HB0.out.trans (hbx.mono HB0.out.size))
    have BK1 := Lib.hid (BK.out.below hbx BK.out.lt)
    clear hbx
    have k0 := BK1.out.cell 0 rfl
    have k1 := BK1.out.cell 1 rfl
    have k2 := BK1.out.cell 2 rfl
    have k3 := BK1.out.cell 3 rfl
    have k4 := BK1.out.cell 4 rfl
    have k5 := BK1.out.cell 5 rfl
    have k6 := BK1.out.cell 6 rfl
    have k7 := BK1.out.cell 7 rfl
    go_wp2_with fail
    refine (HLa.out _ (HO.out.below HB1.out) (HR.out.below HB1.out) (HT.out.below HB1.out)).mono ?_
    rintro e w2 ⟨rfl, hbx⟩
    have HB2 := Lib.hid (HB1.out.trans (hbx.mono HB1.out.size))
    have BK2 := Lib.hid (BK1.out.below hbx BK1.out.lt)
    clear hbx
    clear k0 k1 k2 k3 k4 k5 k6 k7
    have k6 := BK2.out.cell 6 rfl
    go_wp2_with fail
    refine (HSp.out _ (HR.out.below HB2.out) (HT.out.below HB2.out)).mono ?_
    rintro e w3 ⟨A1, c1, A2, c2, rfl, hr1, hr2, hbx⟩
    have HB3 := Lib.hid (HB2.out.trans (hbx.mono HB2.out.size))
    have BK3 := Lib.hid (BK2.out.below hbx BK2.out.lt)
    have HP2 := Lib.hid hr2
    clear hr1 hr2
    clear hbx
    clear k6
    have k0 := BK3.out.cell 0 rfl
    have k1 := BK3.out.cell 1 rfl
    have k2 := BK3.out.cell 2 rfl
    have k3 := BK3.out.cell 3 rfl
    have k4 := BK3.out.cell 4 rfl
    have k5 := BK3.out.cell 5 rfl
    have k6 := BK3.out.cell 6 rfl
    have k7 := BK3.out.cell 7 rfl
    go_wp2_with fail
    refine (HLx.out _ _ _ (HO.out.below HB3.out) HP2.out (HT.out.below HB3.out)).mono ?_
    rintro e w4 ⟨rfl, hbx⟩
    have HB4 := Lib.hid (HB3.out.trans (hbx.mono HB3.out.size))
    have BK4 := Lib.hid (BK3.out.below hbx BK3.out.lt)
    clear hbx
    clear k0 k1 k2 k3 k4 k5 k6 k7
    have k0 := BK4.out.cell 0 rfl
    have k1 := BK4.out.cell 1 rfl
    have k2 := BK4.out.cell 2 rfl
    have k3 := BK4.out.cell 3 rfl
    have k4 := BK4.out.cell 4 rfl
    have k5 := BK4.out.cell 5 rfl
    have k6 := BK4.out.cell 6 rfl
    have k7 := BK4.out.cell 7 rfl
    have hz4 := HB4.out.size
    have HB5 := Lib.hid (HB4.out.alloc HB4.out.size (.cells #[.string o.nu, .string o.se, .string o.bu, .string o.cu, .string o.fr, .string o.tt, .int .i64 t, .slice o.la o.ln o.lc] 33))
    have BK5 := Lib.hid (BK4.out.alloc (.cells #[.string o.nu, .string o.se, .string o.bu, .string o.cu, .string o.fr, .string o.tt, .int .i64 t, .slice o.la o.ln o.lc] 33))
    go_wp2_with fail
    generalize hw5 : (w4.alloc (.cells #[.string o.nu, .string o.se, .string o.bu, .string o.cu, .string o.fr, .string o.tt, .int .i64 t, .slice o.la o.ln o.lc] 33)) = w5 at *
    clear k0 k1 k2 k3 k4 k5 k6 k7
    clear hw5
    refine (HLp.out _ (HOb.out _ (HO.out.below HB5.out)) (HR.out.below HB5.out) (HT.out.below HB5.out)).mono ?_
    rintro e w6 ⟨rfl, hbx⟩
    have HB6 := Lib.hid (HB5.out.trans (hbx.mono HB5.out.size))
    have BK6 := Lib.hid (BK5.out.below hbx BK5.out.lt)
    clear hbx
    have k6 := BK6.out.cell 6 rfl
    go_wp2_with fail
    refine (HCh.out _ (HR.out.below HB6.out) (HT.out.below HB6.out)).mono ?_
    rintro e w7 ⟨rfl, hbx⟩
    have HB7 := Lib.hid (HB6.out.trans (hbx.mono HB6.out.size))
    have BK7 := Lib.hid (BK6.out.below hbx BK6.out.lt)
    clear hbx
    clear k6
    have k6 := BK7.out.cell 6 rfl
    have hgl := BK7.out.lt
    go_wp2
    go_quiet (fail)
    go_wp2
    all_goals
      go_ret
      exact ⟨rfl, below_drewN HB7.out _⟩

theorem l_clater (o : Ord) (a : Option Addr) (n c : Nat) (L : List Cst) (t : Int) (w : World) (ho : o.ln ≤ 1048576 → OrdOk w o) (hom : o.ln ≤ 9223372036854775807) (hn : L.length = n) (hm : n ≤ 9223372036854775807) (hr : Rd w a (flat cC L)) (hok : ∀ x ∈ L, CstOk x) (_h1 : (Lit.int .i64 t).wf = true) (hT : Tab w) :
    Calls Tryd.prog 9 #[o.v, .slice a n c, .int .i64 t] w fun e w' => e = .returned (.bool true) ∧ Below w.heap.size w w' := by
  by_cases hs : n ≤ 60
  · by_cases hf : o.ln ≤ 70
    · by_cases he : landE o L = 0
      · exact l_clater_ok o a n c L t w ho hn hm hr hok hT hs hf he
      · by_cases hsp : splitE o.term L = 0
        · exact l_clater_bad1 o a n c L t w ho hn hm hr hok hT hs hf he hsp
        · exact l_clater_bad2 o a n c L t w ho hn hm hr hok hT hs hf he hsp
    · exact l_clater_many o a n c L t w ho hn hm hr hok hT hs (by omega) hom
  · exact l_clater_long o a n c L t w ho hn hm hr hok hT (by omega)

end Go.Proofs.YtdkabldhkgidjaaDoor
