/-
  The laws CostLands, CostEach: their walks.
-/
import Derived.Test.YtdkabldhkgidjaaDoorAwake20
namespace Go.Proofs.YtdkabldhkgidjaaDoor
set_option linter.unusedVariables false
set_option linter.unusedSimpArgs false
open Go.RowKit


set_option maxRecDepth 100000 in
set_option maxHeartbeats 6400000 in
theorem l_clands_long (o : Ord) (a : Option Addr) (n c : Nat) (L : List Cst) (w : World) (ho : o.ln ≤ 1048576 → OrdOk w o) (hn : L.length = n) (hm : n ≤ 9223372036854775807) (hr : Rd w a (flat cC L)) (hok : ∀ x ∈ L, CstOk x) (hT : Tab w) (hlong : 60 < n) :
    Calls Tryd.prog 4 #[o.v, .slice a n c] w fun e w' => e = .returned (.bool true) ∧ Below w.heap.size w w' := by
  have HR := Lib.hid hr
  have HT := Lib.hid hT
  have BK := Lib.hid (Blk.new w 33 #[.string o.nu, .string o.se, .string o.bu, .string o.cu, .string o.fr, .string o.tt, .int .i64 o.term, .slice o.la o.ln o.lc])
  have HB0 := Lib.hid ((Below.refl w.heap.size w).alloc (Nat.le_refl _) (.cells #[.string o.nu, .string o.se, .string o.bu, .string o.cu, .string o.fr, .string o.tt, .int .i64 o.term, .slice o.la o.ln o.lc] 33))
  clear hr hT hok hn ho
  unfold Ord.v
  go_enter Tryd.func4, Tryd.ntmps4
  go_wp2_with fail
  refine (c_awake20 _ (HT.out.below HB0.out)).mono ?_
  rintro e w1 ⟨rfl, hbx⟩
  have HB1 := Lib.hid (HB0.out.trans (hbx.mono HB0.out.size))
  have BK1 := Lib.hid (BK.out.below hbx BK.out.lt)
  clear hbx
  have k7 := BK1.out.cell 7 rfl
  go_wp2_with fail
  clear k7
  refine (c_awake20 _ (HT.out.below HB1.out)).mono ?_
  rintro e w2 ⟨rfl, hbx⟩
  have HB2 := Lib.hid (HB1.out.trans (hbx.mono HB1.out.size))
  clear hbx
  go_wp2_with fail
  go_ret
  exact ⟨rfl, HB2.out⟩

set_option maxRecDepth 100000 in
set_option maxHeartbeats 6400000 in
theorem l_clands_many (o : Ord) (a : Option Addr) (n c : Nat) (L : List Cst) (w : World) (ho : o.ln ≤ 1048576 → OrdOk w o) (hn : L.length = n) (hm : n ≤ 9223372036854775807) (hr : Rd w a (flat cC L)) (hok : ∀ x ∈ L, CstOk x) (hT : Tab w) (hs : n ≤ 60) (hmany : 70 < o.ln) (hom : o.ln ≤ 9223372036854775807) :
    Calls Tryd.prog 4 #[o.v, .slice a n c] w fun e w' => e = .returned (.bool true) ∧ Below w.heap.size w w' := by
  have HR := Lib.hid hr
  have HT := Lib.hid hT
  have BK := Lib.hid (Blk.new w 33 #[.string o.nu, .string o.se, .string o.bu, .string o.cu, .string o.fr, .string o.tt, .int .i64 o.term, .slice o.la o.ln o.lc])
  have HB0 := Lib.hid ((Below.refl w.heap.size w).alloc (Nat.le_refl _) (.cells #[.string o.nu, .string o.se, .string o.bu, .string o.cu, .string o.fr, .string o.tt, .int .i64 o.term, .slice o.la o.ln o.lc] 33))
  have hmi : (70 : Int) < o.ln := by omega
  clear hr hT hok hn ho
  unfold Ord.v
  go_enter Tryd.func4, Tryd.ntmps4
  go_wp2_with fail
  refine (c_awake20 _ (HT.out.below HB0.out)).mono ?_
  rintro e w1 ⟨rfl, hbx⟩
  have HB1 := Lib.hid (HB0.out.trans (hbx.mono HB0.out.size))
  have BK1 := Lib.hid (BK.out.below hbx BK.out.lt)
  clear hbx
  have k7 := BK1.out.cell 7 rfl
  go_wp2_with fail
  clear k7
  refine (c_awake20 _ (HT.out.below HB1.out)).mono ?_
  rintro e w2 ⟨rfl, hbx⟩
  have HB2 := Lib.hid (HB1.out.trans (hbx.mono HB1.out.size))
  clear hbx
  go_wp2_with fail
  go_ret
  exact ⟨rfl, HB2.out⟩

set_option maxRecDepth 100000 in
set_option maxHeartbeats 6400000 in
theorem l_ceach_long (o : Ord) (a : Option Addr) (n c : Nat) (L : List Cst) (w : World) (ho : o.ln ≤ 1048576 → OrdOk w o) (hn : L.length = n) (hm : n ≤ 9223372036854775807) (hr : Rd w a (flat cC L)) (hok : ∀ x ∈ L, CstOk x) (hT : Tab w) (hlong : 60 < n) :
    Calls Tryd.prog 5 #[o.v, .slice a n c] w fun e w' => e = .returned (.bool true) ∧ Below w.heap.size w w' := by
  have HR := Lib.hid hr
  have HT := Lib.hid hT
  have BK := Lib.hid (Blk.new w 33 #[.string o.nu, .string o.se, .string o.bu, .string o.cu, .string o.fr, .string o.tt, .int .i64 o.term, .slice o.la o.ln o.lc])
  have HB0 := Lib.hid ((Below.refl w.heap.size w).alloc (Nat.le_refl _) (.cells #[.string o.nu, .string o.se, .string o.bu, .string o.cu, .string o.fr, .string o.tt, .int .i64 o.term, .slice o.la o.ln o.lc] 33))
  clear hr hT hok hn ho
  unfold Ord.v
  go_enter Tryd.func5, Tryd.ntmps5
  go_wp2_with fail
  refine (c_awake20 _ (HT.out.below HB0.out)).mono ?_
  rintro e w1 ⟨rfl, hbx⟩
  have HB1 := Lib.hid (HB0.out.trans (hbx.mono HB0.out.size))
  have BK1 := Lib.hid (BK.out.below hbx BK.out.lt)
  clear hbx
  have k7 := BK1.out.cell 7 rfl
  go_wp2_with fail
  clear k7
  refine (c_awake20 _ (HT.out.below HB1.out)).mono ?_
  rintro e w2 ⟨rfl, hbx⟩
  have HB2 := Lib.hid (HB1.out.trans (hbx.mono HB1.out.size))
  clear hbx
  go_wp2_with fail
  go_ret
  exact ⟨rfl, HB2.out⟩

set_option maxRecDepth 100000 in
set_option maxHeartbeats 6400000 in
theorem l_ceach_many (o : Ord) (a : Option Addr) (n c : Nat) (L : List Cst) (w : World) (ho : o.ln ≤ 1048576 → OrdOk w o) (hn : L.length = n) (hm : n ≤ 9223372036854775807) (hr : Rd w a (flat cC L)) (hok : ∀ x ∈ L, CstOk x) (hT : Tab w) (hs : n ≤ 60) (hmany : 70 < o.ln) (hom : o.ln ≤ 9223372036854775807) :
    Calls Tryd.prog 5 #[o.v, .slice a n c] w fun e w' => e = .returned (.bool true) ∧ Below w.heap.size w w' := by
  have HR := Lib.hid hr
  have HT := Lib.hid hT
  have BK := Lib.hid (Blk.new w 33 #[.string o.nu, .string o.se, .string o.bu, .string o.cu, .string o.fr, .string o.tt, .int .i64 o.term, .slice o.la o.ln o.lc])
  have HB0 := Lib.hid ((Below.refl w.heap.size w).alloc (Nat.le_refl _) (.cells #[.string o.nu, .string o.se, .string o.bu, .string o.cu, .string o.fr, .string o.tt, .int .i64 o.term, .slice o.la o.ln o.lc] 33))
  have hmi : (70 : Int) < o.ln := by omega
  clear hr hT hok hn ho
  unfold Ord.v
  go_enter Tryd.func5, Tryd.ntmps5
  go_wp2_with fail
  refine (c_awake20 _ (HT.out.below HB0.out)).mono ?_
  rintro e w1 ⟨rfl, hbx⟩
  have HB1 := Lib.hid (HB0.out.trans (hbx.mono HB0.out.size))
  have BK1 := Lib.hid (BK.out.below hbx BK.out.lt)
  clear hbx
  have k7 := BK1.out.cell 7 rfl
  go_wp2_with fail
  clear k7
  refine (c_awake20 _ (HT.out.below HB1.out)).mono ?_
  rintro e w2 ⟨rfl, hbx⟩
  have HB2 := Lib.hid (HB1.out.trans (hbx.mono HB1.out.size))
  clear hbx
  go_wp2_with fail
  go_ret
  exact ⟨rfl, HB2.out⟩

set_option maxRecDepth 100000 in
set_option maxHeartbeats 6400000 in
theorem l_clands_bad (o : Ord) (a : Option Addr) (n c : Nat) (L : List Cst) (w : World) (ho : o.ln ≤ 1048576 → OrdOk w o) (hn : L.length = n) (hm : n ≤ 9223372036854775807) (hr : Rd w a (flat cC L)) (hok : ∀ x ∈ L, CstOk x) (hT : Tab w) (hs : n ≤ 60) (hfew : o.ln ≤ 70) (he : landE o L ≠ 0) :
    Calls Tryd.prog 4 #[o.v, .slice a n c] w fun e w' => e = .returned (.bool true) ∧ Below w.heap.size w w' := by
  have hO : OrdOk w o := ho (by omega)
  have hlni : (o.ln : Int) ≤ 70 := by omega
  have HLa := fun w ho hr hT => c_landed o a n c L w ho hn hm hr hok hT
  have HLr := fun w ho hr hT => c_rlanded o a n c L w ho hn hm hr hok hT
  have HEa := fun w ho hr hT => c_each_bad o a n c L w ho hn hm hr hok hT he
  have HEr := fun w ho hr hT => c_reach_bad o a n c L w ho hn hm hr hok hT he
  have HSm := fun w => c_same none none 0 0 0 0 [] [] w rfl rfl (by decide) (by decide) (Rd.nil _ _) (Rd.nil _ _)
  rw [show decide (([] : List Int) = []) = true from by decide] at HSm
  have HSm := Lib.hid HSm
  have HR := Lib.hid hr
  have HT := Lib.hid hT
  have BK := Lib.hid (Blk.new w 33 #[.string o.nu, .string o.se, .string o.bu, .string o.cu, .string o.fr, .string o.tt, .int .i64 o.term, .slice o.la o.ln o.lc])
  have HB0 := Lib.hid ((Below.refl w.heap.size w).alloc (Nat.le_refl _) (.cells #[.string o.nu, .string o.se, .string o.bu, .string o.cu, .string o.fr, .string o.tt, .int .i64 o.term, .slice o.la o.ln o.lc] 33))
  have HO := Lib.hid hO
  clear hr hT hok hn ho hO he
  unfold Ord.v at HLa HLr HEa HEr ⊢
  generalize landT o L + landC o L = N at *
  generalize landE o L = E at *
  have HLa := Lib.hid HLa
  have HLr := Lib.hid HLr
  have HEa := Lib.hid HEa
  have HEr := Lib.hid HEr
  go_enter Tryd.func4, Tryd.ntmps4
  go_wp2_with fail
  refine (c_awake20 _ (HT.out.below HB0.out)).mono ?_
  rintro e w1 ⟨rfl, hbx⟩
  have HB1 := Lib.hid (HB0.out.trans (hbx.mono HB0.out.size))
  have BK1 := Lib.hid (BK.out.below hbx BK.out.lt)
  clear hbx
  have k0 := BK1.out.cell 0 rfl
  have k1 := BK1.out.cell 1 rfl
  have k2 := BK1.out.cell 2 rfl
  have k3 := BK1.out.cell 3 rfl
  have k4 := BK1.out.cell 4 rfl
  have k5 := BK1.out.cell 5 rfl
  have k6 := BK1.out.cell 6 rfl
  have k7 := BK1.out.cell 7 rfl
  go_wp2_with fail
  refine (HLa.out _ (HO.out.below HB1.out) (HR.out.below HB1.out) (HT.out.below HB1.out)).mono ?_
  rintro e w2 ⟨rfl, hbx⟩
  have HB2 := Lib.hid (HB1.out.trans (hbx.mono HB1.out.size))
  have BK2 := Lib.hid (BK1.out.below hbx BK1.out.lt)
  clear hbx
  clear k0 k1 k2 k3 k4 k5 k6 k7
  have k0 := BK2.out.cell 0 rfl
  have k1 := BK2.out.cell 1 rfl
  have k2 := BK2.out.cell 2 rfl
  have k3 := BK2.out.cell 3 rfl
  have k4 := BK2.out.cell 4 rfl
  have k5 := BK2.out.cell 5 rfl
  have k6 := BK2.out.cell 6 rfl
  have k7 := BK2.out.cell 7 rfl
  go_wp2_with fail
  refine (HLr.out _ (HO.out.below HB2.out) (HR.out.below HB2.out) (HT.out.below HB2.out)).mono ?_
  rintro e w3 ⟨rfl, hbx⟩
  have HB3 := Lib.hid (HB2.out.trans (hbx.mono HB2.out.size))
  have BK3 := Lib.hid (BK2.out.below hbx BK2.out.lt)
  clear hbx
  clear k0 k1 k2 k3 k4 k5 k6 k7
  have k0 := BK3.out.cell 0 rfl
  have k1 := BK3.out.cell 1 rfl
  have k2 := BK3.out.cell 2 rfl
  have k3 := BK3.out.cell 3 rfl
  have k4 := BK3.out.cell 4 rfl
  have k5 := BK3.out.cell 5 rfl
  have k6 := BK3.out.cell 6 rfl
  have k7 := BK3.out.cell 7 rfl
  go_wp2_with fail
  refine (HEa.out _ (HO.out.below HB3.out) (HR.out.below HB3.out) (HT.out.below HB3.out)).mono ?_
  rintro e w4 ⟨rfl, hbx⟩
  have HB4 := Lib.hid (HB3.out.trans (hbx.mono HB3.out.size))
  have BK4 := Lib.hid (BK3.out.below hbx BK3.out.lt)
  clear hbx
  clear k0 k1 k2 k3 k4 k5 k6 k7
  have k0 := BK4.out.cell 0 rfl
  have k1 := BK4.out.cell 1 rfl
  have k2 := BK4.out.cell 2 rfl
  have k3 := BK4.out.cell 3 rfl
  have k4 := BK4.out.cell 4 rfl
  have k5 := BK4.out.cell 5 rfl
  have k6 := BK4.out.cell 6 rfl
  have k7 := BK4.out.cell 7 rfl
  go_wp2_with fail
  refine (HEr.out _ (HO.out.below HB4.out) (HR.out.below HB4.out) (HT.out.below HB4.out)).mono ?_
  rintro e w5 ⟨rfl, hbx⟩
  have HB5 := Lib.hid (HB4.out.trans (hbx.mono HB4.out.size))
  have BK5 := Lib.hid (BK4.out.below hbx BK4.out.lt)
  clear hbx
  clear k0 k1 k2 k3 k4 k5 k6 k7
  go_wp2_with fail
  refine (HSm.out _).mono ?_
  rintro e w6 ⟨rfl, q, rfl⟩
  go_wp2_with fail
  go_ret
  exact ⟨rfl, below_drewN HB5.out _⟩

set_option maxRecDepth 100000 in
set_option maxHeartbeats 6400000 in
theorem l_clands_ok (o : Ord) (a : Option Addr) (n c : Nat) (L : List Cst) (w : World) (ho : o.ln ≤ 1048576 → OrdOk w o) (hn : L.length = n) (hm : n ≤ 9223372036854775807) (hr : Rd w a (flat cC L)) (hok : ∀ x ∈ L, CstOk x) (hT : Tab w) (hs : n ≤ 60) (hfew : o.ln ≤ 70) (he : landE o L = 0) :
    Calls Tryd.prog 4 #[o.v, .slice a n c] w fun e w' => e = .returned (.bool true) ∧ Below w.heap.size w w' := by
  have hO : OrdOk w o := ho (by omega)
  have hlni : (o.ln : Int) ≤ 70 := by omega
  have HLa := fun w ho hr hT => c_landed o a n c L w ho hn hm hr hok hT
  have HLr := fun w ho hr hT => c_rlanded o a n c L w ho hn hm hr hok hT
  have HEa := fun w ho hr hT => c_each o a n c L w ho hn hm hr hok hT he
  have HEr := fun w ho hr hT => c_reach o a n c L w ho hn hm hr hok hT he
  unfold EachOk at HEa HEr
  rw [he] at HLa HLr
  have hpl : (eachP o L).length = o.ln := by unfold eachP; rw [mixE_length, parts_length, List.length_map]; exact hO.hl
  have HSm := Lib.hid (fun b1 b2 w h1 h2 => c_same (some ⟨b1, 0, none⟩) (some ⟨b2, 0, none⟩) o.ln o.ln o.ln o.ln (eachP o L) (eachP o L) w hpl hpl (by omega) (by omega) h1 h2)
  rw [decide_eq_true rfl] at HSm
  clear hpl
  have HR := Lib.hid hr
  have HT := Lib.hid hT
  have BK := Lib.hid (Blk.new w 33 #[.string o.nu, .string o.se, .string o.bu, .string o.cu, .string o.fr, .string o.tt, .int .i64 o.term, .slice o.la o.ln o.lc])
  have HB0 := Lib.hid ((Below.refl w.heap.size w).alloc (Nat.le_refl _) (.cells #[.string o.nu, .string o.se, .string o.bu, .string o.cu, .string o.fr, .string o.tt, .int .i64 o.term, .slice o.la o.ln o.lc] 33))
  have HO := Lib.hid hO
  clear hr hT hok hn ho hO he
  unfold Ord.v at HLa HLr HEa HEr ⊢
  generalize landT o L + landC o L = N at *
  have HLa := Lib.hid HLa
  have HLr := Lib.hid HLr
  have HEa := Lib.hid HEa
  have HEr := Lib.hid HEr
  go_enter Tryd.func4, Tryd.ntmps4
  go_wp2_with fail
  refine (c_awake20 _ (HT.out.below HB0.out)).mono ?_
  rintro e w1 ⟨rfl, hbx⟩
  have HB1 := Lib.hid (HB0.out.trans (hbx.mono HB0.out.size))
  have BK1 := Lib.hid (BK.out.below hbx BK.out.lt)
  clear hbx
  have k0 := BK1.out.cell 0 rfl
  have k1 := BK1.out.cell 1 rfl
  have k2 := BK1.out.cell 2 rfl
  have k3 := BK1.out.cell 3 rfl
  have k4 := BK1.out.cell 4 rfl
  have k5 := BK1.out.cell 5 rfl
  have k6 := BK1.out.cell 6 rfl
  have k7 := BK1.out.cell 7 rfl
  go_wp2_with fail
  refine (HLa.out _ (HO.out.below HB1.out) (HR.out.below HB1.out) (HT.out.below HB1.out)).mono ?_
  rintro e w2 ⟨rfl, hbx⟩
  have HB2 := Lib.hid (HB1.out.trans (hbx.mono HB1.out.size))
  have BK2 := Lib.hid (BK1.out.below hbx BK1.out.lt)
  clear hbx
  clear k0 k1 k2 k3 k4 k5 k6 k7
  have k0 := BK2.out.cell 0 rfl
  have k1 := BK2.out.cell 1 rfl
  have k2 := BK2.out.cell 2 rfl
  have k3 := BK2.out.cell 3 rfl
  have k4 := BK2.out.cell 4 rfl
  have k5 := BK2.out.cell 5 rfl
  have k6 := BK2.out.cell 6 rfl
  have k7 := BK2.out.cell 7 rfl
  go_wp2_with fail
  refine (HLr.out _ (HO.out.below HB2.out) (HR.out.below HB2.out) (HT.out.below HB2.out)).mono ?_
  rintro e w3 ⟨rfl, hbx⟩
  have HB3 := Lib.hid (HB2.out.trans (hbx.mono HB2.out.size))
  have BK3 := Lib.hid (BK2.out.below hbx BK2.out.lt)
  clear hbx
  clear k0 k1 k2 k3 k4 k5 k6 k7
  have k0 := BK3.out.cell 0 rfl
  have k1 := BK3.out.cell 1 rfl
  have k2 := BK3.out.cell 2 rfl
  have k3 := BK3.out.cell 3 rfl
  have k4 := BK3.out.cell 4 rfl
  have k5 := BK3.out.cell 5 rfl
  have k6 := BK3.out.cell 6 rfl
  have k7 := BK3.out.cell 7 rfl
  go_wp2_with fail
  refine (HEa.out _ (HO.out.below HB3.out) (HR.out.below HB3.out) (HT.out.below HB3.out)).mono ?_
  rintro e w4 ⟨b2, t2, rfl, hl2, hbx, hblk2⟩
  have HB4 := Lib.hid (HB3.out.trans (hbx.mono HB3.out.size))
  have BK4 := Lib.hid (BK3.out.below hbx BK3.out.lt)
  have BE2 := Lib.hid hblk2
  clear hblk2 hl2
  clear hbx
  clear k0 k1 k2 k3 k4 k5 k6 k7
  have k0 := BK4.out.cell 0 rfl
  have k1 := BK4.out.cell 1 rfl
  have k2 := BK4.out.cell 2 rfl
  have k3 := BK4.out.cell 3 rfl
  have k4 := BK4.out.cell 4 rfl
  have k5 := BK4.out.cell 5 rfl
  have k6 := BK4.out.cell 6 rfl
  have k7 := BK4.out.cell 7 rfl
  go_wp2_with fail
  refine (HEr.out _ (HO.out.below HB4.out) (HR.out.below HB4.out) (HT.out.below HB4.out)).mono ?_
  rintro e w5 ⟨b3, t3, rfl, hl3, hbx, hblk3⟩
  have HB5 := Lib.hid (HB4.out.trans (hbx.mono HB4.out.size))
  have BE2x := Lib.hid (BE2.out.below hbx BE2.out.lt)
  have BK5 := Lib.hid (BK4.out.below hbx BK4.out.lt)
  have BE3 := Lib.hid hblk3
  clear hblk3 hl3
  clear hbx
  clear k0 k1 k2 k3 k4 k5 k6 k7
  go_wp2_with fail
  refine (HSm.out _ _ _ (Rd.blk' BE2x.out) (Rd.blk' BE3.out)).mono ?_
  rintro e w6 ⟨rfl, q, rfl⟩
  go_wp2_with fail
  go_ret
  exact ⟨rfl, below_drewN HB5.out _⟩

theorem l_clands (o : Ord) (a : Option Addr) (n c : Nat) (L : List Cst) (w : World) (ho : o.ln ≤ 1048576 → OrdOk w o) (hom : o.ln ≤ 9223372036854775807) (hn : L.length = n) (hm : n ≤ 9223372036854775807) (hr : Rd w a (flat cC L)) (hok : ∀ x ∈ L, CstOk x) (hT : Tab w) :
    Calls Tryd.prog 4 #[o.v, .slice a n c] w fun e w' => e = .returned (.bool true) ∧ Below w.heap.size w w' := by
  by_cases hs : n ≤ 60
  · by_cases hf : o.ln ≤ 70
    · by_cases he : landE o L = 0
      · exact l_clands_ok o a n c L w ho hn hm hr hok hT hs hf he
      · exact l_clands_bad o a n c L w ho hn hm hr hok hT hs hf he
    · exact l_clands_many o a n c L w ho hn hm hr hok hT hs (by omega) hom
  · exact l_clands_long o a n c L w ho hn hm hr hok hT (by omega)

end Go.Proofs.YtdkabldhkgidjaaDoor
