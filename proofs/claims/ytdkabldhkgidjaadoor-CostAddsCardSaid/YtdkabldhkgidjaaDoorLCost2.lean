/-
  The laws CostLands, CostEach: their walks.
-/
import Derived.Test.YtdkabldhkgidjaaDoorAwake20
namespace Go.Proofs.YtdkabldhkgidjaaDoor
set_option linter.unusedVariables false
set_option linter.unusedSimpArgs false
open Go.RowKit


set_option maxRecDepth 100000 in
set_option maxHeartbeats 6400000 in
theorem l_clands_long (o : Ord) (a : Option Addr) (n c : Nat) (L : List Cst) (w : World) (ho : o.ln ≤ 1048576 → OrdOk w o) (hn : L.length = n) (hm : n ≤ 9223372036854775807) (hr : Rd w a (flat cC L)) (hok : ∀ x ∈ L, CstOk x) (hT : Tab w) (hlong : 60 < n) :
    Calls Tryd.prog 4 #[o.v, .slice a n c] w fun e w' => e = .returned (.bool true) ∧ Below w.heap.size w w' := by
  have HR := Lib.hid hr
  have HT := Lib.hid hT
  have BK := Lib.hid (Blk.new w 33 #[.string o.nu, .string o.se, .string o.bu, .string o.cu, .string o.fr, .string o.tt, .int .i64 o.term, .slice o.la o.ln o.lc])
  have HB0 := Lib.hid ((Below.refl w.heap.size w).alloc (Nat.le_refl _) (.cells #[.string o.nu, .string o.se, .string o.bu, .string o.cu, .string o.fr, .string o.tt, .int .i64 o.term, .slice o.la o.ln o.lc] 33))
  clear hr hT hok hn ho
  unfold Ord.v
  go_enter Tryd.func4, Tryd.ntmps4
  go_wp2_with fail
  refine (c_awake20 _ (HT.out.below HB0.out)).mono ?_
  rintro e w1 ⟨rfl, hbx⟩
  have HB1 := Lib.hid (HB0.out.trans (hbx.mono HB0.out.size))
  have BK1 := Lib.hid (BK.out.below hbx BK.out.lt)
  clear hbx
  have k7 := BK1.out.cell 7 rfl
  go_wp2_with fail
  clear k7
  refine (c_awake20 _ (HT.out.below HB1.out)).mono ?_
  rintro e w2 ⟨rfl, hbx⟩
  have HB2 := Lib.hid (HB1.out.trans (hbx.mono HB1.out.size))
  clear hbx
  go_wp2_with fail
  go_ret
  exact ⟨rfl, HB2.out⟩

set_option maxRecDepth 100000 in
set_option maxHeartbeats 6400000 in
theorem l_clands_many (o : Ord) (a : Option Addr) (n c : Nat) (L : List Cst) (w : World) (ho : o.ln ≤ 1048576 → OrdOk w o) (hn : L.length = n) (hm : n ≤ 9223372036854775807) (hr : Rd w a (flat cC L)) (hok : ∀ x ∈ L, CstOk x) (hT : Tab w) (hs : n ≤ 60) (hmany : 70 < o.ln) (hom : o.ln ≤ 9223372036854775807) :
    Calls Tryd.prog 4 #[o.v, .slice a n c] w fun e w' => e = .returned (.bool true) ∧ Below w.heap.size w w' := by
  have HR := Lib.hid hr
  have HT := Lib.hid hT
  have BK := Lib.hid (Blk.new w 33 #[.string o.nu, .string o.se, .string o.bu, .string o.cu, .string o.fr, .string o.tt, .int .i64 o.term, .slice o.la o.ln o.lc])
  have HB0 := Lib.hid ((Below.refl w.heap.size w).alloc (Nat.le_refl _) (.cells #[.string o.nu, .string o.se, .string o.bu, .string o.cu, .string o.fr, .string o.tt, .int .i64 o.term, .slice o.la o.ln o.lc] 33))
  have hmi : (70 : Int) < o.ln := by omega
  clear hr hT hok hn ho
  unfold Ord.v
  go_enter Tryd.func4, Tryd.ntmps4
  go_wp2_with fail
  refine (c_awake20 _ (HT.out.below HB0.out)).mono ?_
  rintro e w1 ⟨rfl, hbx⟩
  have HB1 := Lib.hid (HB0.out.trans (hbx.mono HB0.out.size))
  have BK1 := Lib.hid (BK.out.below hbx BK.out.lt)
  clear hbx
  have k7 := BK1.out.cell 7 rfl
  go_wp2_with fail
  clear k7
  refine (c_awake20 _ (HT.out.below HB1.out)).mono ?_
  rintro e w2 ⟨rfl, hbx⟩
  have HB2 := Lib.hid (HB1.out.trans (hbx.mono HB1.out.size))
  clear hbx
  go_wp2_with fail
  go_ret
  exact ⟨rfl, HB2.out⟩

set_option maxRecDepth 100000 in
set_option maxHeartbeats 6400000 in
theorem l_ceach_long (o : Ord) (a : Option Addr) (n c : Nat) (L : List Cst) (w : World) (ho : o.ln ≤ 1048576 → OrdOk w o) (hn : L.length = n) (hm : n ≤ 9223372036854775807) (hr : Rd w a (flat cC L)) (hok : ∀ x ∈ L, CstOk x) (hT : Tab w) (hlong : 60 < n) :
    Calls Tryd.prog 5 #[o.v, .slice a n c] w fun e w' => e = .returned (.bool true) ∧ Below w.heap.size w w' := by
  have HR := Lib.hid hr
  have HT := Lib.hid hT
  have BK := Lib.hid (Blk.new w 33 #[.string o.nu, .string o.se, .string o.bu, .string o.cu, .string o.fr, .string o.tt, .int .i64 o.term, .slice o.la o.ln o.lc])
  have HB0 := Lib.hid ((Below.refl w.heap.size w).alloc (Nat.le_refl _) (.cells #[.string o.nu, .string o.se, .string o.bu, .string o.cu, .string o.fr, .string o.tt, .int .i64 o.term, .slice o.la o.ln o.lc] 33))
  clear hr hT hok hn ho
  unfold Ord.v
  go_enter Tryd.func5, Tryd.ntmps5
  go_wp2_with fail
  refine (c_awake20 _ (HT.out.below HB0.out)).mono ?_
  rintro e w1 ⟨rfl, hbx⟩
  have HB1 := Lib.hid (HB0.out.trans (hbx.mono HB0.out.size))
  have BK1 := Lib.hid (BK.out.below hbx BK.out.lt)
  clear hbx
  have k7 := BK1.out.cell 7 rfl
  go_wp2_with fail
  clear k7
  refine (c_awake20 _ (HT.out.below HB1.out)).mono ?_
  rintro e w2 ⟨rfl, hbx⟩
  have HB2 := Lib.hid (HB1.out.trans (hbx.mono HB1.out.size))
  clear hbx
  go_wp2_with fail
  go_ret
  exact ⟨rfl, HB2.out⟩

set_option maxRecDepth 100000 in
set_option maxHeartbeats 6400000 in
theorem l_ceach_many (o : Ord) (a : Option Addr) (n c : Nat) (L : List Cst) (w : World) (ho : o.ln ≤ 1048576 → OrdOk w o) (hn : L.length = n) (hm : n ≤ 9223372036854775807) (hr : Rd w a (flat cC L)) (hok : ∀ x ∈ L, CstOk x) (hT : Tab w) (hs : n ≤ 60) (hmany : 70 < o.ln) (hom : o.ln ≤ 9223372036854775807) :
    Calls Tryd.prog 5 #[o.v, .slice a n c] w fun e w' => e = .returned (.bool true) ∧ Below w.heap.size w w' := by
  have HR := Lib.hid hr
  have HT := Lib.hid hT
  have BK := Lib.hid (Blk.new w 33 #[.string o.nu, .string o.se, .string o.bu, .string o.cu, .string o.fr, .string o.tt, .int .i64 o.term, .slice o.la o.ln o.lc])
  have HB0 := Lib.hid ((Below.refl w.heap.size w).alloc (Nat.le_refl _) (.cells #[.string o.nu, .string o.se, .string o.bu, .string o.cu, .string o.fr, .string o.tt, .int .i64 o.term, .slice o.la o.ln o.lc] 33))
  have hmi : (70 : Int) < o.ln := by omega
  clear hr hT hok hn ho
  unfold Ord.v
  go_enter Tryd.func5, Tryd.ntmps5
  go_wp2_with fail
  refine (c_awake20 _ (HT.out.below HB0.out)).mono ?_
  rintro e w1 ⟨rfl, hbx⟩
  have HB1 := Lib.hid (HB0.out.trans (hbx.mono HB0.out.size))
  have BK1 := Lib.hid (BK.out.below hbx BK.out.lt)
  clear hbx
  have k7 := BK1.out.cell 7 rfl
  go_wp2_with fail
  clear k7
  refine (c_awake20 _ (HT.out.below HB1.out)).mono ?_
  rintro e w2 ⟨rfl, hbx⟩
  have HB2 := Lib.hid (HB1.out.trans (hbx.mono HB1.out.size))
  clear hbx
  go_wp2_with fail
  go_ret
  exact ⟨rfl, HB2.out⟩

set_option maxRecDepth 100000 in
set_option maxHeartbeats 6400000 in
theorem l_clands_bad (o : Ord) (a : Option Addr) (n c : Nat) (L : List Cst) (w : World) (ho : o.ln ≤ 1048576 → OrdOk w o) (hn : L.length = n) (hm : n ≤ 9223372036854775807) (hr : Rd w a (flat cC L)) (hok : ∀ x ∈ L, CstOk x) (hT : Tab w) (hs : n ≤ 60) (hfew : o.ln ≤ 70) (he : landE o L ≠ 0) :
    Calls Tryd.prog 4 #[o.v, .slice a n c] w fun e w' => e = .returned (.bool true) ∧ Below w.heap.size w w' := by
  have hO : OrdOk w o := ho (by omega)
  have hlni : (o.ln : Int) ≤ 70 := by omega
  have HLa := fun w ho hr hT => c_landed o a n c L w ho hn hm hr hok hT
  have HLr := fun w ho hr hT => c_rlanded o a n c L w ho hn hm hr hok hT
  have HEa := fun w ho hr hT => c_each_bad o a n c L w ho hn hm hr hok hT he
  have HEr := fun w ho hr hT => c_reach_bad o a n c L w ho hn hm hr hok hT he
  have HSm := fun w => c_same none none 0 0 0 0 [] [] w rfl rfl (by decide) (by decide) (Rd.nil _ _) (Rd.nil _ _)
  rw [show decide (([] : List Int) = []) = true from by decide] at HSm
  have HSm := Lib.hid HSm
  have HR := Lib.hid hr
  have HT := Lib.hid hT
  have BK := Lib.hid (Blk.new w 33 #[.string o.nu, .string o.se, .string o.bu, .string o.cu, .string o.fr, .string o.tt, .int .i64 o.term, .slice o.la o.ln o.lc])
  have HB0 := Lib.hid ((Below.refl w.heap.size w).alloc (Nat.le_refl _) (.cells #[.string o.nu, .string o.se, .string o.bu, .string o.cu, .string o.fr, .string o.tt, .int .i64 o.term, .slice o.la o.ln o.lc] 33))
  have HO := Lib.hid hO
  clear hr hT hok hn ho hO he
  unfold Ord.v at HLa HLr HEa HEr ⊢
  generalize landT o L + landC o L = N at *
  generalize landE o L = E at *
  have HLa := Lib.hid HLa
  have HLr := Lib.hid HLr
  have HEa := Lib.hid HEa
  have HEr := Lib.hid HEr
  go_enter Tryd.func4, Tryd.ntmps4
  go_wp2_with fail
  refine (c_awake20 _ (HT.out.below HB0.out)).mono ?_
  rintro e w1 ⟨rfl, hbx⟩
  have HB1 := Lib.hid (HB0.out.trans (hbx.mono HB0.out.size))
  have BK1 := Lib.hid (BK.out.below hbx BK.out.lt)
  clear hbx
  have k0 := BK1.out.cell 0 rfl
  have k1 := BK1.out.cell 1 rfl
  have k2 := BK1.out.cell 2 rfl
  have k3 := BK1.out.cell 3 rfl
  have k4 := BK1.out.cell 4 rfl
  have k5 := BK1.out.cell 5 rfl
  have k6 := BK1.out.cell 6 rfl
  have k7 := BK1.out.cell 7 rfl
  go_wp2_with fail
  refine (HLa.out _ (HO.out.below HB1.out) (HR.out.below HB1.out) (HT.out.below HB1.out)).mono ?_
  rintro e w2 ⟨rfl, hbx⟩
  have HB2 := Lib.hid (HB1.out.trans (hbx.mono HB1.out.size))
  have BK2 := Lib.hid (BK1.out.below hbx BK1.out.lt)
  clear hbx
  clear k0 k1 k2 k3 k4 k5 k6 k7
  have k0 := BK2.out.cell 0 rfl
  have k1 := BK2.out.cell 1 rfl
  have k2 := BK2.out.cell 2 rfl
  have k3 := BK2.out.cell 3 rfl
  have k4 := BK2.out.cell 4 rfl
  have k5 := BK2.out.cell 5 rfl
  have k6 := BK2.out.cell 6 rfl
  have k7 := BK2.out.cell 7 rfl
  go_wp2_with fail
  refine (HLr.out _ (HO.out.below HB2.out) (HR.out.below HB2.out) (HT.out.below HB2.out)).mono ?_
  rintro e w3 ⟨rfl, hbx⟩
  have HB3 := Lib.hid (HB2.out.trans (hbx.mono HB2.out.size))
  have BK3 := Lib.hid (BK2.out.below hbx BK2.out.lt)
  clear hbx
  clear k0 k1 k2 k3 k4 k5 k6 k7
  have k0 := BK3.out.cell 0 rfl
  have k1 := BK3.out.cell 1 rfl
  have k2 := BK3.out.cell 2 rfl
  have k3 := BK3.out.cell 3 rfl
  have k4 := BK3.out.cell 4 rfl
  have k5 := BK3.out.cell 5 rfl
  have k6 := BK3.out.cell 6 rfl
  have k7 := BK3.out.cell 7 rfl
  go_wp2_with fail
  refine (HEa.out _ (HO.out.below HB3.out) (HR.out.below HB3.out) (HT.out.below HB3.out)).mono ?_
  rintro e w4 ⟨rfl, hbx⟩
  have HB4 := Lib.hid (HB3.out.trans (hbx.mono HB3.out.size))
  have BK4 := Lib.hid (BK3.out.below hbx BK3.out.lt)
  clear hbx
  clear k0 k1 k2 k3 k4 k5 k6 k7
  have k0 := BK4.out.cell 0 rfl
  have k1 := BK4.out.cell 1 rfl
  have k2 := BK4.out.cell 2 rfl
  have k3 := BK4.out.cell 3 rfl
  have k4 := BK4.out.cell 4 rfl
  have k5 := BK4.out.cell 5 rfl
  have k6 := BK4.out.cell 6 rfl
  have k7 := BK4.out.cell 7 rfl
  go_wp2_with fail
  refine (HEr.out _ (HO.out.below HB4.out) (HR.out.below HB4.out) (HT.out.below HB4.out)).mono ?_
  rintro e w5 ⟨rfl, hbx⟩
  have HB5 := Lib.hid (HB4.out.trans (hbx.mono HB4.out.size))
  have BK5 := Lib.hid (BK4.out.below hbx BK4.out.lt)
  clear hbx
  clear k0 k1 k2 k3 k4 k5 k6 k7
  go_wp2_with fail
  refine (HSm.out _).mono ?_
  rintro e w6 ⟨rfl, q, rfl⟩
  go_wp2_with fail
  go_ret
  exact ⟨rfl, below_drewN HB5.out _⟩

set_option maxRecDepth 100000 in
set_option maxHeartbeats 6400000 in
theorem l_clands_ok (o : Ord) (a : Option Addr) (n c : Nat) (L : List Cst) (w : World) (ho : o.ln ≤ 1048576 → OrdOk w o) (hn : L.length = n) (hm : n ≤ 9223372036854775807) (hr : Rd w a (flat cC L)) (hok : ∀ x ∈ L, CstOk x) (hT : Tab w) (hs : n ≤ 60) (hfew : o.ln ≤ 70) (he : landE o L = 0) :
    Calls Tryd.prog 4 #[o.v, .slice a n c] w fun e w' => e = .returned (.bool true) ∧ Below w.heap.size w w' := by
  have hO : OrdOk w o := ho (by omega)
  have hlni : (o.ln : Int) ≤ 70 := by omega
  have HLa := fun w ho hr hT => c_landed o a n c L w ho hn hm hr hok hT
  have HLr := fun w ho hr hT => c_rlanded o a n c L w ho hn hm hr hok hT
  have HEa := fun w ho hr hT => c_each o a n c L w ho hn hm hr hok hT he
  have HEr := fun w ho hr hT => c_reach o a n c L w ho hn hm hr hok hT he
  unfold EachOk at HEa HEr
  rw [he] at HLa HLr
  have hpl : (eachP o L).length = o.ln := by unfold eachP; rw [mixE_length, parts_length, List.length_map]; exact hO.hl
  have HSm := Lib.hid (fun b1 b2 w h1 h2 => c_same (some ⟨b1, 0, none⟩) (some ⟨b2, 0, none⟩) o.ln o.ln o.ln o.ln (eachP o L) (eachP o L) w hpl hpl (by omega) (by omega) h1 h2)
  rw [decide_eq_true rfl] at HSm
  clear hpl
  have HR := Lib.hid hr
  have HT := Lib.hid hT
  have BK := Lib.hid (Blk.new w 33 #[.string o.nu, .string o.se, .string o.bu, .string o.cu, .string o.fr, .string o.tt, .int .i64 o.term, .slice o.la o.ln o.lc])
  have HB0 := Lib.hid ((Below.refl w.heap.size w).alloc (Nat.le_refl _) (.cells #[.string o.nu, .string o.se, .string o.bu, .string o.cu, .string o.fr, .string o.tt, .int .i64 o.term, .slice o.la o.ln o.lc] 33))
  have HO := Lib.hid hO
  clear hr hT hok hn ho hO he
  unfold Ord.v at HLa HLr HEa HEr ⊢
  generalize landT o L + landC o L = N at *
  have HLa := Lib.hid HLa
  have HLr := Lib.hid HLr
  have HEa := Lib.hid HEa
  have HEr := Lib.hid HEr
  go_enter Tryd.func4, Tryd.ntmps4
  go_wp2_with fail
  refine (c_awake20 _ (HT.out.below HB0.out)).mono ?_
  rintro e w1 ⟨rfl, hbx⟩
  have HB1 := Lib.hid (HB0.out.trans (hbx.mono HB0.out.size))
  have BK1 := Lib.hid (BK.out.below hbx BK.out.lt)
  clear hbx
  have k0 := BK1.out.cell 0 rfl
  have k1 := BK1.out.cell 1 rfl
  have k2 := BK1.out.cell 2 rfl
  have k3 := BK1.out.cell 3 rfl
  have k4 := BK1.out.cell 4 rfl
  have k5 := BK1.out.cell 5 rfl
  have k6 := BK1.out.cell 6 rfl
  have k7 := BK1.out.cell 7 rfl
  go_wp2_with fail
  refine (HLa.out _ (HO.out.below HB1.out) (HR.out.below HB1.out) (HT.out.below HB1.out)).mono ?_
  rintro e w2 ⟨rfl, hbx⟩
  have HB2 := Lib.hid (HB1.out.trans (hbx.mono HB1.out.size))
  have BK2 := Lib.hid (BK1.out.below hbx BK1.out.lt)
  clear hbx
  clear k0 k1 k2 k3 k4 k5 k6 k7
  have k0 := BK2.out.cell 0 rfl
  have k1 := BK2.out.cell 1 rfl
  have k2 := BK2.out.cell 2 rfl
  have k3 := BK2.out.cell 3 rfl
  have k4 := BK2.out.cell 4 rfl
  have k5 := BK2.out.cell 5 rfl
  have k6 := BK2.out.cell 6 rfl
  have k7 := BK2.out.cell 7 rfl
  go_wp2_with fail
  refine (HLr.out _ (HO.out.below HB2.out) (HR.out.below HB2.out) (HT.out.below HB2.out)).mono ?_
  rintro e w3 ⟨rfl, hbx⟩
  have HB3 := Lib.hid (HB2.out.trans (hbx.mono HB2.out.size))
  have BK3 := Lib.hid (BK2.out.below hbx BK2.out.lt)
  clear hbx
  clear k0 k1 k2 k3 k4 k5 k6 k7
  have k0 := BK3.out.cell 0 rfl
  have k1 := BK3.out.cell 1 rfl
  have k2 := BK3.out.cell 2 rfl
  have k3 := BK3.out.cell 3 rfl
  have k4 := BK3.out.cell 4 rfl
  have k5 := BK3.out.cell 5 rfl
  have k6 := BK3.out.cell 6 rfl
  have k7 := BK3.out.cell 7 rfl
  go_wp2_with fail
  refine (HEa.out _ (HO.out.below HB3.out) (HR.out.below HB3.out) (HT.out.below HB3.out)).mono ?_
  rintro e w4 ⟨b2, t2, rfl, hl2, hbx, hblk2⟩
  have HB4 := Lib.hid (HB3.out.trans (hbx.mono HB3.out.size))
  have BK4 := Lib.hid (BK3.out.below hbx BK3.out.lt)
  have BE2 := Lib.hid hblk2
  clear hblk2 hl2
  clear hbx
  clear k0 k1 k2 k3 k4 k5 k6 k7
  have k0 := BK4.out.cell 0 rfl
  have k1 := BK4.out.cell 1 rfl
  have k2 := BK4.out.cell 2 rfl
  have k3 := BK4.out.cell 3 rfl
  have k4 := BK4.out.cell 4 rfl
  have k5 := BK4.out.cell 5 rfl
  have k6 := BK4.out.cell 6 rfl
  have k7 := BK4.out.cell 7 rfl
  go_wp2_with fail
  refine (HEr.out _ (HO.out.below HB4.out) (HR.out.below HB4.out) (HT.out.below HB4.out)).mono ?_
  rintro e w5 ⟨b3, t3, rfl, hl3, hbx, hblk3⟩
  have HB5 := Lib.hid (HB4.out.trans (hbx.mono HB4.out.size))
  have BE2x := Lib.hid (BE2.out.below hbx BE2.out.lt)
  have BK5 := Lib.hid (BK4.out.below hbx BK4.out.lt)
  have BE3 := Lib.hid hblk3
  clear hblk3 hl3
  clear hbx
  clear k0 k1 k2 k3 k4 k5 k6 k7
  go_wp2_with fail
  refine (HSm.out _ _ _ (Rd.blk' BE2x.out) (Rd.blk' BE3.out)).mono ?_
  rintro e w6 ⟨rfl, q, rfl⟩
  go_wp2_with fail
  go_ret
  exact ⟨rfl, below_drewN HB5.out _⟩

theorem sumL_mix : ∀ (P W : List Int), P.length = W.length → sumL ((List.range P.length).map fun i => P.getD i 0 + W.getD i 0) = sumL P + sumL W := by
  intro P
  induction P with
  | nil => intro W h; cases W with
    | nil => rfl
    | cons y r => simp at h
  | cons x r ih =>
    intro W h
    cases W with
    | nil => simp at h
    | cons y q =>
      have h2 := ih q (by simpa using h)
      rw [List.length_cons, List.range_succ_eq_map, List.map_cons, List.map_map]
      simp only [sumL, List.getD_cons_zero]
      have e : (List.range r.length).map ((fun i => (x :: r).getD i 0 + (y :: q).getD i 0) ∘ Nat.succ) = (List.range r.length).map fun i => r.getD i 0 + q.getD i 0 := by
        refine List.map_congr_left fun i _ => ?_
        simp [Function.comp]
      rw [e, h2]
      omega
theorem mixE_full (P W : List Int) (n : Nat) (hP : P.length = n) : mixE P W n = (List.range P.length).map fun i => P.getD i 0 + W.getD i 0 := by
  unfold mixE
  refine List.map_congr_left fun i hi => ?_
  rw [if_pos (by have := List.mem_range.1 hi; omega)]
theorem each_facts {o : Ord} {L : List Cst} (h : landE o L = 0) :
    (eachP o L).length = o.L.length ∧ sumL (eachP o L) = landT o L + landC o L ∧ ∀ k, k < o.L.length → 0 ≤ (o.L.map worth).getD k 0 ∧ (o.L.map worth).getD k 0 ≤ (eachP o L).getD k 0 ∧ (eachP o L).getD k 0 ≤ 2199023255552 := by
  obtain ⟨h1, h2, hT, hC, c0, c1⟩ := landE_zero h
  obtain ⟨w0, w1, w2⟩ := wgt_facts h1
  obtain ⟨hm, t0, t1, t2⟩ := totE_zero h1
  have hl : (partsOf (landC o L) (o.L.map (wgtO o))).length = o.L.length := by rw [parts_length, List.length_map]
  have hpb := parts_bd c0 (fun x hx => (w0 x hx).1) w1
  have hs := parts_sum (landC o L) (o.L.map (wgtO o)) w1
  have hf : eachP o L = (List.range (partsOf (landC o L) (o.L.map (wgtO o))).length).map fun i => (partsOf (landC o L) (o.L.map (wgtO o))).getD i 0 + (o.L.map worth).getD i 0 := mixE_full _ _ _ hl
  refine ⟨by unfold eachP; rw [mixE_length, hl], ?_, fun k hk => ?_⟩
  · rw [hf, sumL_mix _ _ (by rw [hl, List.length_map]), hs, sumW_map, hT, t1]
    omega
  · have p := getD_bd c0 hpb k
    have q := getD_bd (by omega) w2 k
    have e : (eachP o L).getD k 0 = (partsOf (landC o L) (o.L.map (wgtO o))).getD k 0 + (o.L.map worth).getD k 0 := by
      rw [hf]
      simp [List.getD_eq_getElem?_getD, hl, hk]
    rw [e]
    omega

set_option maxRecDepth 100000 in
set_option maxHeartbeats 6400000 in
theorem l_ceach_bad (o : Ord) (a : Option Addr) (n c : Nat) (L : List Cst) (w : World) (ho : o.ln ≤ 1048576 → OrdOk w o) (hn : L.length = n) (hm : n ≤ 9223372036854775807) (hr : Rd w a (flat cC L)) (hok : ∀ x ∈ L, CstOk x) (hT : Tab w) (hs : n ≤ 60) (hfew : o.ln ≤ 70) (he : landE o L ≠ 0) :
    Calls Tryd.prog 5 #[o.v, .slice a n c] w fun e w' => e = .returned (.bool true) ∧ Below w.heap.size w w' := by
  have hO : OrdOk w o := ho (by omega)
  have hlni : (o.ln : Int) ≤ 70 := by omega
  have HLa := fun w ho hr hT => c_landed o a n c L w ho hn hm hr hok hT
  have HEa := fun w ho hr hT => c_each_bad o a n c L w ho hn hm hr hok hT he
  have hz : landT o L + landC o L = 0 := by unfold landT landC; rw [if_neg he, if_neg he]; rfl
  rw [hz] at HLa
  have HR := Lib.hid hr
  have HT := Lib.hid hT
  have BK := Lib.hid (Blk.new w 33 #[.string o.nu, .string o.se, .string o.bu, .string o.cu, .string o.fr, .string o.tt, .int .i64 o.term, .slice o.la o.ln o.lc])
  have HB0 := Lib.hid ((Below.refl w.heap.size w).alloc (Nat.le_refl _) (.cells #[.string o.nu, .string o.se, .string o.bu, .string o.cu, .string o.fr, .string o.tt, .int .i64 o.term, .slice o.la o.ln o.lc] 33))
  have HO := Lib.hid hO
  clear hr hT hok hn ho hO hz
  unfold Ord.v at HLa HEa ⊢
  generalize landE o L = E at *
  have t4 : (E != 0) = true := by simpa using he
  have HEe := Lib.hid he
  clear he
  have HLa := Lib.hid HLa
  have HEa := Lib.hid HEa
  go_enter Tryd.func5, Tryd.ntmps5
  go_wp2_with fail
  refine (c_awake20 _ (HT.out.below HB0.out)).mono ?_
  rintro e w1 ⟨rfl, hbx⟩
  have HB1 := Lib.hid (HB0.out.trans (hbx.mono HB0.out.size))
  have BK1 := Lib.hid (BK.out.below hbx BK.out.lt)
  clear hbx
  have k0 := BK1.out.cell 0 rfl
  have k1 := BK1.out.cell 1 rfl
  have k2 := BK1.out.cell 2 rfl
  have k3 := BK1.out.cell 3 rfl
  have k4 := BK1.out.cell 4 rfl
  have k5 := BK1.out.cell 5 rfl
  have k6 := BK1.out.cell 6 rfl
  have k7 := BK1.out.cell 7 rfl
  go_wp2_with fail
  refine (HLa.out _ (HO.out.below HB1.out) (HR.out.below HB1.out) (HT.out.below HB1.out)).mono ?_
  rintro e w2 ⟨rfl, hbx⟩
  have HB2 := Lib.hid (HB1.out.trans (hbx.mono HB1.out.size))
  have BK2 := Lib.hid (BK1.out.below hbx BK1.out.lt)
  clear hbx
  clear k0 k1 k2 k3 k4 k5 k6 k7
  have k0 := BK2.out.cell 0 rfl
  have k1 := BK2.out.cell 1 rfl
  have k2 := BK2.out.cell 2 rfl
  have k3 := BK2.out.cell 3 rfl
  have k4 := BK2.out.cell 4 rfl
  have k5 := BK2.out.cell 5 rfl
  have k6 := BK2.out.cell 6 rfl
  have k7 := BK2.out.cell 7 rfl
  go_wp2_with fail
  refine (HEa.out _ (HO.out.below HB2.out) (HR.out.below HB2.out) (HT.out.below HB2.out)).mono ?_
  rintro e w3 ⟨rfl, hbx⟩
  have HB3 := Lib.hid (HB2.out.trans (hbx.mono HB2.out.size))
  clear hbx
  clear k0 k1 k2 k3 k4 k5 k6 k7
  go_wp2_with fail
  go_ret
  exact ⟨rfl, HB3.out⟩

set_option maxRecDepth 100000 in
set_option maxHeartbeats 6400000 in
theorem l_ceach_ok (o : Ord) (a : Option Addr) (n c : Nat) (L : List Cst) (w : World) (ho : o.ln ≤ 1048576 → OrdOk w o) (hn : L.length = n) (hm : n ≤ 9223372036854775807) (hr : Rd w a (flat cC L)) (hok : ∀ x ∈ L, CstOk x) (hT : Tab w) (hs : n ≤ 60) (hfew : o.ln ≤ 70) (he : landE o L = 0) :
    Calls Tryd.prog 5 #[o.v, .slice a n c] w fun e w' => e = .returned (.bool true) ∧ Below w.heap.size w w' := by
  have hO : OrdOk w o := ho (by omega)
  have hlni : (o.ln : Int) ≤ 70 := by omega
  have HLa := fun w ho hr hT => c_landed o a n c L w ho hn hm hr hok hT
  rw [he] at HLa
  have HEa := fun w ho hr hT => c_each o a n c L w ho hn hm hr hok hT he
  unfold EachOk at HEa
  obtain ⟨hql, hqs, hqk⟩ := each_facts he
  rw [hO.hl] at hql hqk
  obtain ⟨hmy, -⟩ := totE_zero (landE_zero he).1
  obtain ⟨hf, -, -⟩ := linesB_facts (Ord.may_lines hmy)
  have HF := Lib.hid hf
  have HR := Lib.hid hr
  have HT := Lib.hid hT
  have BK := Lib.hid (Blk.new w 33 #[.string o.nu, .string o.se, .string o.bu, .string o.cu, .string o.fr, .string o.tt, .int .i64 o.term, .slice o.la o.ln o.lc])
  have HB0 := Lib.hid ((Below.refl w.heap.size w).alloc (Nat.le_refl _) (.cells #[.string o.nu, .string o.se, .string o.bu, .string o.cu, .string o.fr, .string o.tt, .int .i64 o.term, .slice o.la o.ln o.lc] 33))
  have HO := Lib.hid hO
  have HLn := Lib.hid hO.hl
  clear hr hT hok hn ho hO he hmy hf
  unfold Ord.v at HLa HEa ⊢
  generalize landT o L + landC o L = N at *
  generalize eachP o L = Q at *
  have HQl := Lib.hid hql
  have HQs := Lib.hid hqs
  have HQk := Lib.hid hqk
  clear hql hqs hqk
  have HLa := Lib.hid HLa
  have HEa := Lib.hid HEa
  go_enter Tryd.func5, Tryd.ntmps5
  go_wp2_with fail
  refine (c_awake20 _ (HT.out.below HB0.out)).mono ?_
  rintro e w1 ⟨rfl, hbx⟩
  have HB1 := Lib.hid (HB0.out.trans (hbx.mono HB0.out.size))
  have BK1 := Lib.hid (BK.out.below hbx BK.out.lt)
  clear hbx
  have k0 := BK1.out.cell 0 rfl
  have k1 := BK1.out.cell 1 rfl
  have k2 := BK1.out.cell 2 rfl
  have k3 := BK1.out.cell 3 rfl
  have k4 := BK1.out.cell 4 rfl
  have k5 := BK1.out.cell 5 rfl
  have k6 := BK1.out.cell 6 rfl
  have k7 := BK1.out.cell 7 rfl
  go_wp2_with fail
  refine (HLa.out _ (HO.out.below HB1.out) (HR.out.below HB1.out) (HT.out.below HB1.out)).mono ?_
  rintro e w2 ⟨rfl, hbx⟩
  have HB2 := Lib.hid (HB1.out.trans (hbx.mono HB1.out.size))
  have BK2 := Lib.hid (BK1.out.below hbx BK1.out.lt)
  clear hbx
  clear k0 k1 k2 k3 k4 k5 k6 k7
  have k0 := BK2.out.cell 0 rfl
  have k1 := BK2.out.cell 1 rfl
  have k2 := BK2.out.cell 2 rfl
  have k3 := BK2.out.cell 3 rfl
  have k4 := BK2.out.cell 4 rfl
  have k5 := BK2.out.cell 5 rfl
  have k6 := BK2.out.cell 6 rfl
  have k7 := BK2.out.cell 7 rfl
  go_wp2_with fail
  refine (HEa.out _ (HO.out.below HB2.out) (HR.out.below HB2.out) (HT.out.below HB2.out)).mono ?_
  rintro e w3 ⟨b, t, rfl, hbl, hbx, hblk⟩
  have HB3 := Lib.hid (HB2.out.trans (hbx.mono HB2.out.size))
  have BK3 := Lib.hid (BK2.out.below hbx BK2.out.lt)
  have BE := Lib.hid hblk
  clear hblk hbl
  clear hbx
  clear k0 k1 k2 k3 k4 k5 k6 k7
  have HRl := Lib.hid (HO.out.hr.below HB3.out)
  go_wp2_with fail
  go_loopw [9, 58] (fun s x wr => ∃ (k : Nat) (u : Int), s = .int .i64 u ∧ x = .int .i64 k ∧ k ≤ o.ln ∧ 0 ≤ u ∧ u ≤ 2199023255552 * k ∧ Hid (u = sumL (Q.take k)) ∧ ∃ q, wr = w3.drewN q) (fun _ x _ => o.ln - (intOf x).toNat)
  case atStart => exact ⟨0, 0, rfl, rfl, by omega, by omega, by omega, rfl, 0, rfl⟩
  case round =>
    obtain ⟨k, u, rfl, rfl, hk, u0, u1, hu, q, rfl⟩ := hrel
    have k7 := (BK3.out.drewN q).cell 7 rfl
    have HWr := Lib.hid (fun nq => World.drewN_drewN w3 q nq)
    have HBq := Lib.hid (below_drewN HB3.out q)
    by_cases hlt : k < o.ln
    · have hkL : k < o.L.length := by rw [HLn.out]; exact hlt
      have hkq : k < Q.length := by rw [HQl.out]; exact hlt
      obtain ⟨g1, off, hla, hg1, d0, d1, d2⟩ := line_at (HRl.out.drewN q) k hkL
      rw [hla] at k7
      clear hla
      have pc := (BE.out.drewN q).cell k (rowI_get .i64 Q k hkq)
      have hts := sumL_take_succ' Q k hkq
      have eq : Q[k] = Q.getD k 0 := by rw [List.getD_eq_getElem?_getD, List.getElem?_eq_getElem hkq]; rfl
      rw [eq] at hts
      obtain ⟨r0, r1, r2⟩ := HQk.out k hlt
      have ew : (o.L.map worth).getD k 0 = worth o.L[k] := by simp [List.getD_eq_getElem?_getD, hkL]
      rw [ew] at r0 r1
      have hw := HF.out _ (List.getElem_mem hkL)
      obtain ⟨-, -, w0, w1'⟩ := hw
      have HS := Lib.hid (show u + Q.getD k 0 = sumL (Q.take (k + 1)) by rw [hts, hu.out])
      clear hts eq ew hu
      generalize Q.getD k 0 = x at *
      generalize o.L[k] = p at *
      generalize w3.drewN q = wr at *
      obtain ⟨pg, pn, pp⟩ := p
      unfold worth at r0 r1 w0 w1'
      simp only at d0 d1 d2 r0 r1 w0 w1'
      have hki : (k : Int) < o.ln := by omega
      have e0 : IntKind.i64.wrap (pn * pp) = pn * pp := IntWalk.i64_in _ (by omega)
      have e1 : IntKind.i64.wrap (u + x) = u + x := IntWalk.i64_in _ (by omega)
      have t1 : decide (x < pn * pp) = false := decide_eq_false (by omega)
      have t2 : decide ((o.ln : Int) ≤ (k : Int)) = false := decide_eq_false (by omega)
      have t3 : decide (o.ln ≤ k) = false := decide_eq_false (by omega)
      go_wp2
      go_big_quiet (fail)
      go_wp2
      go_roundw
      case rel => exact ⟨k + 1, u + x, rfl, by go_num, by omega, by omega, by push_cast; omega, HS.out, _, HWr.out _⟩
      case measure => simp [intOf]; omega
    · obtain rfl : k = o.ln := by omega
      have hfin : u = N := by
        have := hu.out
        rw [List.take_of_length_le (by rw [HQl.out]; exact Nat.le_refl _), HQs.out] at this
        exact this
      have t1 : (u == N) = true := by simpa using hfin
      have H1 := Lib.hid hfin
      clear hfin hu
      go_wp2
      go_ret
      exact ⟨rfl, HBq.out⟩

theorem l_clands (o : Ord) (a : Option Addr) (n c : Nat) (L : List Cst) (w : World) (ho : o.ln ≤ 1048576 → OrdOk w o) (hom : o.ln ≤ 9223372036854775807) (hn : L.length = n) (hm : n ≤ 9223372036854775807) (hr : Rd w a (flat cC L)) (hok : ∀ x ∈ L, CstOk x) (hT : Tab w) :
    Calls Tryd.prog 4 #[o.v, .slice a n c] w fun e w' => e = .returned (.bool true) ∧ Below w.heap.size w w' := by
  by_cases hs : n ≤ 60
  · by_cases hf : o.ln ≤ 70
    · by_cases he : landE o L = 0
      · exact l_clands_ok o a n c L w ho hn hm hr hok hT hs hf he
      · exact l_clands_bad o a n c L w ho hn hm hr hok hT hs hf he
    · exact l_clands_many o a n c L w ho hn hm hr hok hT hs (by omega) hom
  · exact l_clands_long o a n c L w ho hn hm hr hok hT (by omega)

theorem l_ceach (o : Ord) (a : Option Addr) (n c : Nat) (L : List Cst) (w : World) (ho : o.ln ≤ 1048576 → OrdOk w o) (hom : o.ln ≤ 9223372036854775807) (hn : L.length = n) (hm : n ≤ 9223372036854775807) (hr : Rd w a (flat cC L)) (hok : ∀ x ∈ L, CstOk x) (hT : Tab w) :
    Calls Tryd.prog 5 #[o.v, .slice a n c] w fun e w' => e = .returned (.bool true) ∧ Below w.heap.size w w' := by
  by_cases hs : n ≤ 60
  · by_cases hf : o.ln ≤ 70
    · by_cases he : landE o L = 0
      · exact l_ceach_ok o a n c L w ho hn hm hr hok hT hs hf he
      · exact l_ceach_bad o a n c L w ho hn hm hr hok hT hs hf he
    · exact l_ceach_many o a n c L w ho hn hm hr hok hT hs (by omega) hom
  · exact l_ceach_long o a n c L w ho hn hm hr hok hT (by omega)

end Go.Proofs.YtdkabldhkgidjaaDoor
