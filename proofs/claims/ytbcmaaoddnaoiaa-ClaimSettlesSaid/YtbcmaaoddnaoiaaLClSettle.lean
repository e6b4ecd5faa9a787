/-
  The law ClaimSettles: its walk.
-/
import Derived.Test.YtbcmaaoddnaoiaaRSettle
import Derived.Test.YtbcmaaoddnaoiaaLClWhole
namespace Go.Proofs.Ytbcmaaoddnaoiaa
set_option linter.unusedVariables false
set_option linter.unusedSimpArgs false
open Go.RowKit

theorem Pols.one {w : World} {b : Nat} {t : TypeId} {cs : Array Value} {p : Pol} (h : Blk w b t cs) (e : cs.toList = p.cells) (hp : PolOk w p) : Pols w (some ⟨b, 0, none⟩) [p] :=
  ⟨Rd.cells' h (e.trans (by simp [cellsP])), fun q hq => by obtain rfl := List.mem_singleton.1 hq; exact hp⟩
theorem few_one (p : Pol) : fewP [p] = decide (p.cn ≤ 70) := by
  unfold fewP
  rw [Bool.eq_iff_iff]
  simp

theorem sub_bad {x y : Int} (hx : ¬ ((0 ≤ x ∧ x ≤ 1099511627776) ∧ (0 ≤ y ∧ y ≤ 1099511627776))) : amtB x = false ∨ amtB y = false := by
  by_cases h : 0 ≤ x ∧ x ≤ 1099511627776
  · exact .inr (decide_eq_false fun h2 => hx ⟨h, h2⟩)
  · exact .inl (decide_eq_false h)

set_option maxRecDepth 100000 in
set_option maxHeartbeats 3200000 in
theorem l_clsettles_few (loss value : Int) (p : Pol) (a : Option Addr) (n c : Nat) (L : List (Int × Int)) (paid rec : Int) (w : World) (hp : PolOk w p) (hn : L.length = n) (hm : n ≤ 9223372036854775807) (hr : Rd w a (cellsW L)) (hf : decide (p.cn ≤ 70) = false) :
    Calls Try.prog 14 #[.int .i64 loss, .int .i64 value, p.v, .slice a n c, .int .i64 paid, .int .i64 rec] w fun e w' => e = .returned (.bool true) ∧ Below w.heap.size w w' := by
  have HF := Lib.hid (fun (wx : World) ax cx (h : Pols wx ax [p]) => c_few44 ax 1 cx [p] wx rfl (by omega) h)
  rw [few_one, hf] at HF
  have HP := Lib.hid hp
  have HR := Lib.hid hr
  unfold Pol.v polV
  have B0 := Lib.hid (Blk.new w 57 #[.string p.i, .string p.f, .string p.t, .int .i64 p.sum, .int .i64 p.own, .slice p.ca p.cn p.cc, .int .i64 p.first, .int .i64 p.last, .int .i64 p.share])
  have HB0 := Lib.hid ((Below.refl w.heap.size w).alloc (Nat.le_refl _) (.cells #[.string p.i, .string p.f, .string p.t, .int .i64 p.sum, .int .i64 p.own, .slice p.ca p.cn p.cc, .int .i64 p.first, .int .i64 p.last, .int .i64 p.share] 57))
  clear hp hr hn
  clear hf
  go_enter Try.func14, Try.ntmps14
  go_wp2_with fail
  refine (c_awake44 _).mono ?_
  rintro e w1 ⟨rfl, hbx⟩
  have HB1 := Lib.hid (HB0.out.trans (hbx.mono (by simp)))
  have B1 := Lib.hid (B0.out.below hbx B0.out.lt)
  clear hbx
  have g0 := B1.out.cell 0 rfl
  have g1 := B1.out.cell 1 rfl
  have g2 := B1.out.cell 2 rfl
  have g3 := B1.out.cell 3 rfl
  have g4 := B1.out.cell 4 rfl
  have g5 := B1.out.cell 5 rfl
  have g6 := B1.out.cell 6 rfl
  have g7 := B1.out.cell 7 rfl
  have g8 := B1.out.cell 8 rfl
  go_wp2_with fail
  have BX := Lib.hid (Blk.new w1 57 #[.string p.i, .string p.f, .string p.t, .int .i64 p.sum, .int .i64 p.own, .slice p.ca p.cn p.cc, .int .i64 p.first, .int .i64 p.last, .int .i64 p.share])
  have HBx := Lib.hid (HB1.out.alloc HB1.out.size (.cells #[.string p.i, .string p.f, .string p.t, .int .i64 p.sum, .int .i64 p.own, .slice p.ca p.cn p.cc, .int .i64 p.first, .int .i64 p.last, .int .i64 p.share] 57))
  refine (HF.out _ _ _ (Pols.one BX.out rfl (HP.out.below HBx.out))).mono ?_
  rintro e w2 ⟨rfl, rfl⟩
  have B2 := Lib.hid (B1.out.alloc (.cells #[.string p.i, .string p.f, .string p.t, .int .i64 p.sum, .int .i64 p.own, .slice p.ca p.cn p.cc, .int .i64 p.first, .int .i64 p.last, .int .i64 p.share] 57))
  clear g0 g1 g2 g3 g4 g5 g6 g7 g8
  go_wp2_with fail
  refine (c_awake44 _).mono ?_
  rintro e w3 ⟨rfl, hbx⟩
  have HB3 := Lib.hid (HBx.out.trans (hbx.mono HBx.out.size))
  have B3 := Lib.hid (B2.out.below hbx B2.out.lt)
  clear hbx
  go_wp2_with fail
  go_ret
  exact ⟨rfl, HB3.out⟩

set_option maxRecDepth 100000 in
set_option maxHeartbeats 3200000 in
theorem l_clsettles_long (loss value : Int) (p : Pol) (a : Option Addr) (n c : Nat) (L : List (Int × Int)) (paid rec : Int) (w : World) (hp : PolOk w p) (hn : L.length = n) (hm : n ≤ 9223372036854775807) (hr : Rd w a (cellsW L)) (hf : decide (p.cn ≤ 70) = true) (hlong : 20 < n) :
    Calls Try.prog 14 #[.int .i64 loss, .int .i64 value, p.v, .slice a n c, .int .i64 paid, .int .i64 rec] w fun e w' => e = .returned (.bool true) ∧ Below w.heap.size w w' := by
  have HF := Lib.hid (fun (wx : World) ax cx (h : Pols wx ax [p]) => c_few44 ax 1 cx [p] wx rfl (by omega) h)
  rw [few_one, hf] at HF
  have HP := Lib.hid hp
  have HR := Lib.hid hr
  unfold Pol.v polV
  have B0 := Lib.hid (Blk.new w 57 #[.string p.i, .string p.f, .string p.t, .int .i64 p.sum, .int .i64 p.own, .slice p.ca p.cn p.cc, .int .i64 p.first, .int .i64 p.last, .int .i64 p.share])
  have HB0 := Lib.hid ((Below.refl w.heap.size w).alloc (Nat.le_refl _) (.cells #[.string p.i, .string p.f, .string p.t, .int .i64 p.sum, .int .i64 p.own, .slice p.ca p.cn p.cc, .int .i64 p.first, .int .i64 p.last, .int .i64 p.share] 57))
  clear hp hr hn
  clear hf
  go_enter Try.func14, Try.ntmps14
  go_wp2_with fail
  refine (c_awake44 _).mono ?_
  rintro e w1 ⟨rfl, hbx⟩
  have HB1 := Lib.hid (HB0.out.trans (hbx.mono (by simp)))
  have B1 := Lib.hid (B0.out.below hbx B0.out.lt)
  clear hbx
  have g0 := B1.out.cell 0 rfl
  have g1 := B1.out.cell 1 rfl
  have g2 := B1.out.cell 2 rfl
  have g3 := B1.out.cell 3 rfl
  have g4 := B1.out.cell 4 rfl
  have g5 := B1.out.cell 5 rfl
  have g6 := B1.out.cell 6 rfl
  have g7 := B1.out.cell 7 rfl
  have g8 := B1.out.cell 8 rfl
  go_wp2_with fail
  have BX := Lib.hid (Blk.new w1 57 #[.string p.i, .string p.f, .string p.t, .int .i64 p.sum, .int .i64 p.own, .slice p.ca p.cn p.cc, .int .i64 p.first, .int .i64 p.last, .int .i64 p.share])
  have HBx := Lib.hid (HB1.out.alloc HB1.out.size (.cells #[.string p.i, .string p.f, .string p.t, .int .i64 p.sum, .int .i64 p.own, .slice p.ca p.cn p.cc, .int .i64 p.first, .int .i64 p.last, .int .i64 p.share] 57))
  refine (HF.out _ _ _ (Pols.one BX.out rfl (HP.out.below HBx.out))).mono ?_
  rintro e w2 ⟨rfl, rfl⟩
  have B2 := Lib.hid (B1.out.alloc (.cells #[.string p.i, .string p.f, .string p.t, .int .i64 p.sum, .int .i64 p.own, .slice p.ca p.cn p.cc, .int .i64 p.first, .int .i64 p.last, .int .i64 p.share] 57))
  clear g0 g1 g2 g3 g4 g5 g6 g7 g8
  go_wp2_with fail
  refine (c_awake44 _).mono ?_
  rintro e w3 ⟨rfl, hbx⟩
  have HB3 := Lib.hid (HBx.out.trans (hbx.mono HBx.out.size))
  have B3 := Lib.hid (B2.out.below hbx B2.out.lt)
  clear hbx
  go_wp2_with fail
  go_ret
  exact ⟨rfl, HB3.out⟩

set_option maxRecDepth 100000 in
set_option maxHeartbeats 3200000 in
theorem l_clsettles_ok (loss value : Int) (p : Pol) (a : Option Addr) (n c : Nat) (L : List (Int × Int)) (paid rec : Int) (w : World) (hp : PolOk w p) (hn : L.length = n) (hm : n ≤ 9223372036854775807) (hr : Rd w a (cellsW L)) (hf : decide (p.cn ≤ 70) = true) (hs : n ≤ 20) (hx : 0 ≤ paid ∧ paid ≤ 1099511627776) (hy : 0 ≤ rec ∧ rec ≤ 1099511627776) :
    Calls Try.prog 14 #[.int .i64 loss, .int .i64 value, p.v, .slice a n c, .int .i64 paid, .int .i64 rec] w fun e w' => e = .returned (.bool true) ∧ Below w.heap.size w w' := by
  have HS := fun (wx : World) hp hr => c_settle p a n c L loss value wx hp hn (by omega) hr
  have HT := fun (wx : World) hp hr => c_rsettle p a n c L loss value wx hp hn (by omega) hr
  have HSub := Lib.hid (fun wx => c_subro_ok paid rec wx hx hy)
  obtain ⟨x0, x1⟩ := hx
  obtain ⟨y0, y1⟩ := hy
  obtain ⟨mn, hmn⟩ : ∃ mn, mn = min paid rec := ⟨_, rfl⟩
  have HMn := Lib.hid hmn
  generalize setN p L loss value = N at *
  generalize setE p L loss value = E at *
  unfold Pol.v polV at HS HT
  have HS := Lib.hid HS
  have HT := Lib.hid HT
  have HF := Lib.hid (fun (wx : World) ax cx (h : Pols wx ax [p]) => c_few44 ax 1 cx [p] wx rfl (by omega) h)
  rw [few_one, hf] at HF
  have HP := Lib.hid hp
  have HR := Lib.hid hr
  unfold Pol.v polV
  have B0 := Lib.hid (Blk.new w 57 #[.string p.i, .string p.f, .string p.t, .int .i64 p.sum, .int .i64 p.own, .slice p.ca p.cn p.cc, .int .i64 p.first, .int .i64 p.last, .int .i64 p.share])
  have HB0 := Lib.hid ((Below.refl w.heap.size w).alloc (Nat.le_refl _) (.cells #[.string p.i, .string p.f, .string p.t, .int .i64 p.sum, .int .i64 p.own, .slice p.ca p.cn p.cc, .int .i64 p.first, .int .i64 p.last, .int .i64 p.share] 57))
  clear hp hr hn
  clear hf
  go_enter Try.func14, Try.ntmps14
  go_wp2_with fail
  refine (c_awake44 _).mono ?_
  rintro e w1 ⟨rfl, hbx⟩
  have HB1 := Lib.hid (HB0.out.trans (hbx.mono (by simp)))
  have B1 := Lib.hid (B0.out.below hbx B0.out.lt)
  clear hbx
  have g0 := B1.out.cell 0 rfl
  have g1 := B1.out.cell 1 rfl
  have g2 := B1.out.cell 2 rfl
  have g3 := B1.out.cell 3 rfl
  have g4 := B1.out.cell 4 rfl
  have g5 := B1.out.cell 5 rfl
  have g6 := B1.out.cell 6 rfl
  have g7 := B1.out.cell 7 rfl
  have g8 := B1.out.cell 8 rfl
  go_wp2_with fail
  have BX := Lib.hid (Blk.new w1 57 #[.string p.i, .string p.f, .string p.t, .int .i64 p.sum, .int .i64 p.own, .slice p.ca p.cn p.cc, .int .i64 p.first, .int .i64 p.last, .int .i64 p.share])
  have HBx := Lib.hid (HB1.out.alloc HB1.out.size (.cells #[.string p.i, .string p.f, .string p.t, .int .i64 p.sum, .int .i64 p.own, .slice p.ca p.cn p.cc, .int .i64 p.first, .int .i64 p.last, .int .i64 p.share] 57))
  refine (HF.out _ _ _ (Pols.one BX.out rfl (HP.out.below HBx.out))).mono ?_
  rintro e w2 ⟨rfl, rfl⟩
  have B2 := Lib.hid (B1.out.alloc (.cells #[.string p.i, .string p.f, .string p.t, .int .i64 p.sum, .int .i64 p.own, .slice p.ca p.cn p.cc, .int .i64 p.first, .int .i64 p.last, .int .i64 p.share] 57))
  clear g0 g1 g2 g3 g4 g5 g6 g7 g8
  have g0 := B2.out.cell 0 rfl
  have g1 := B2.out.cell 1 rfl
  have g2 := B2.out.cell 2 rfl
  have g3 := B2.out.cell 3 rfl
  have g4 := B2.out.cell 4 rfl
  have g5 := B2.out.cell 5 rfl
  have g6 := B2.out.cell 6 rfl
  have g7 := B2.out.cell 7 rfl
  have g8 := B2.out.cell 8 rfl
  go_wp2_with fail
  refine (HS.out _ (HP.out.below HBx.out) (HR.out.below HBx.out)).mono ?_
  rintro e w3 ⟨rfl, hbx⟩
  have HB3 := Lib.hid (HBx.out.trans (hbx.mono HBx.out.size))
  have B3 := Lib.hid (B2.out.below hbx B2.out.lt)
  clear hbx
  clear g0 g1 g2 g3 g4 g5 g6 g7 g8
  have g0 := B3.out.cell 0 rfl
  have g1 := B3.out.cell 1 rfl
  have g2 := B3.out.cell 2 rfl
  have g3 := B3.out.cell 3 rfl
  have g4 := B3.out.cell 4 rfl
  have g5 := B3.out.cell 5 rfl
  have g6 := B3.out.cell 6 rfl
  have g7 := B3.out.cell 7 rfl
  have g8 := B3.out.cell 8 rfl
  go_wp2_with fail
  refine (HT.out _ (HP.out.below HB3.out) (HR.out.below HB3.out)).mono ?_
  rintro e w4 ⟨rfl, hbx⟩
  have HB4 := Lib.hid (HB3.out.trans (hbx.mono HB3.out.size))
  have B4 := Lib.hid (B3.out.below hbx B3.out.lt)
  clear hbx
  clear g0 g1 g2 g3 g4 g5 g6 g7 g8
  go_wp2_with fail
  refine (HSub.out _).mono ?_
  rintro e w5 ⟨rfl, rfl⟩
  have ea : IntKind.i64.wrap (min paid rec + (rec - min paid rec)) = rec := by rw [show min paid rec + (rec - min paid rec) = rec by omega]; exact IntWalk.i64_in _ (by omega)
  have eb : min paid rec + (rec - min paid rec) = rec := by omega
  go_wp2_with fail
  go_ret
  exact ⟨rfl, HB4.out⟩

set_option maxRecDepth 100000 in
set_option maxHeartbeats 3200000 in
theorem l_clsettles_out (loss value : Int) (p : Pol) (a : Option Addr) (n c : Nat) (L : List (Int × Int)) (paid rec : Int) (w : World) (hp : PolOk w p) (hn : L.length = n) (hm : n ≤ 9223372036854775807) (hr : Rd w a (cellsW L)) (hf : decide (p.cn ≤ 70) = true) (hs : n ≤ 20) (hx : ¬ ((0 ≤ paid ∧ paid ≤ 1099511627776) ∧ (0 ≤ rec ∧ rec ≤ 1099511627776))) :
    Calls Try.prog 14 #[.int .i64 loss, .int .i64 value, p.v, .slice a n c, .int .i64 paid, .int .i64 rec] w fun e w' => e = .returned (.bool true) ∧ Below w.heap.size w w' := by
  have HS := fun (wx : World) hp hr => c_settle p a n c L loss value wx hp hn (by omega) hr
  have HT := fun (wx : World) hp hr => c_rsettle p a n c L loss value wx hp hn (by omega) hr
  have HSub := Lib.hid (fun wx => c_subro_bad paid rec wx (sub_bad hx))
  generalize setN p L loss value = N at *
  generalize setE p L loss value = E at *
  unfold Pol.v polV at HS HT
  have HS := Lib.hid HS
  have HT := Lib.hid HT
  have HF := Lib.hid (fun (wx : World) ax cx (h : Pols wx ax [p]) => c_few44 ax 1 cx [p] wx rfl (by omega) h)
  rw [few_one, hf] at HF
  have HP := Lib.hid hp
  have HR := Lib.hid hr
  unfold Pol.v polV
  have B0 := Lib.hid (Blk.new w 57 #[.string p.i, .string p.f, .string p.t, .int .i64 p.sum, .int .i64 p.own, .slice p.ca p.cn p.cc, .int .i64 p.first, .int .i64 p.last, .int .i64 p.share])
  have HB0 := Lib.hid ((Below.refl w.heap.size w).alloc (Nat.le_refl _) (.cells #[.string p.i, .string p.f, .string p.t, .int .i64 p.sum, .int .i64 p.own, .slice p.ca p.cn p.cc, .int .i64 p.first, .int .i64 p.last, .int .i64 p.share] 57))
  clear hp hr hn
  clear hf
  go_enter Try.func14, Try.ntmps14
  go_wp2_with fail
  refine (c_awake44 _).mono ?_
  rintro e w1 ⟨rfl, hbx⟩
  have HB1 := Lib.hid (HB0.out.trans (hbx.mono (by simp)))
  have B1 := Lib.hid (B0.out.below hbx B0.out.lt)
  clear hbx
  have g0 := B1.out.cell 0 rfl
  have g1 := B1.out.cell 1 rfl
  have g2 := B1.out.cell 2 rfl
  have g3 := B1.out.cell 3 rfl
  have g4 := B1.out.cell 4 rfl
  have g5 := B1.out.cell 5 rfl
  have g6 := B1.out.cell 6 rfl
  have g7 := B1.out.cell 7 rfl
  have g8 := B1.out.cell 8 rfl
  go_wp2_with fail
  have BX := Lib.hid (Blk.new w1 57 #[.string p.i, .string p.f, .string p.t, .int .i64 p.sum, .int .i64 p.own, .slice p.ca p.cn p.cc, .int .i64 p.first, .int .i64 p.last, .int .i64 p.share])
  have HBx := Lib.hid (HB1.out.alloc HB1.out.size (.cells #[.string p.i, .string p.f, .string p.t, .int .i64 p.sum, .int .i64 p.own, .slice p.ca p.cn p.cc, .int .i64 p.first, .int .i64 p.last, .int .i64 p.share] 57))
  refine (HF.out _ _ _ (Pols.one BX.out rfl (HP.out.below HBx.out))).mono ?_
  rintro e w2 ⟨rfl, rfl⟩
  have B2 := Lib.hid (B1.out.alloc (.cells #[.string p.i, .string p.f, .string p.t, .int .i64 p.sum, .int .i64 p.own, .slice p.ca p.cn p.cc, .int .i64 p.first, .int .i64 p.last, .int .i64 p.share] 57))
  clear g0 g1 g2 g3 g4 g5 g6 g7 g8
  have g0 := B2.out.cell 0 rfl
  have g1 := B2.out.cell 1 rfl
  have g2 := B2.out.cell 2 rfl
  have g3 := B2.out.cell 3 rfl
  have g4 := B2.out.cell 4 rfl
  have g5 := B2.out.cell 5 rfl
  have g6 := B2.out.cell 6 rfl
  have g7 := B2.out.cell 7 rfl
  have g8 := B2.out.cell 8 rfl
  go_wp2_with fail
  refine (HS.out _ (HP.out.below HBx.out) (HR.out.below HBx.out)).mono ?_
  rintro e w3 ⟨rfl, hbx⟩
  have HB3 := Lib.hid (HBx.out.trans (hbx.mono HBx.out.size))
  have B3 := Lib.hid (B2.out.below hbx B2.out.lt)
  clear hbx
  clear g0 g1 g2 g3 g4 g5 g6 g7 g8
  have g0 := B3.out.cell 0 rfl
  have g1 := B3.out.cell 1 rfl
  have g2 := B3.out.cell 2 rfl
  have g3 := B3.out.cell 3 rfl
  have g4 := B3.out.cell 4 rfl
  have g5 := B3.out.cell 5 rfl
  have g6 := B3.out.cell 6 rfl
  have g7 := B3.out.cell 7 rfl
  have g8 := B3.out.cell 8 rfl
  go_wp2_with fail
  refine (HT.out _ (HP.out.below HB3.out) (HR.out.below HB3.out)).mono ?_
  rintro e w4 ⟨rfl, hbx⟩
  have HB4 := Lib.hid (HB3.out.trans (hbx.mono HB3.out.size))
  have B4 := Lib.hid (B3.out.below hbx B3.out.lt)
  clear hbx
  clear g0 g1 g2 g3 g4 g5 g6 g7 g8
  go_wp2_with fail
  refine (HSub.out _).mono ?_
  rintro e w5 ⟨rfl, rfl⟩
  by_cases q0 : paid < 0
  · go_wp2_with fail
    go_ret
    exact ⟨rfl, HB4.out⟩
  · by_cases q1 : 1099511627776 < paid
    · go_wp2_with fail
      go_ret
      exact ⟨rfl, HB4.out⟩
    · by_cases q2 : rec < 0
      · go_wp2_with fail
        go_ret
        exact ⟨rfl, HB4.out⟩
      · have q3 : 1099511627776 < rec := by omega
        go_wp2_with fail
        go_ret
        exact ⟨rfl, HB4.out⟩

theorem l_clsettles (loss value : Int) (p : Pol) (a : Option Addr) (n c : Nat) (L : List (Int × Int)) (paid rec : Int) (w : World) (_h1 : (Lit.int .i64 loss).wf = true) (_h2 : (Lit.int .i64 value).wf = true) (hp : PolOk w p) (hn : L.length = n) (hm : n ≤ 9223372036854775807) (hr : Rd w a (cellsW L)) (_h3 : (Lit.int .i64 paid).wf = true) (_h4 : (Lit.int .i64 rec).wf = true) :
    Calls Try.prog 14 #[.int .i64 loss, .int .i64 value, p.v, .slice a n c, .int .i64 paid, .int .i64 rec] w fun e w' => e = .returned (.bool true) ∧ Below w.heap.size w w' := by
  cases hf : decide (p.cn ≤ 70)
  · exact l_clsettles_few loss value p a n c L paid rec w hp hn hm hr hf
  · by_cases hs : n ≤ 20
    · by_cases hx : (0 ≤ paid ∧ paid ≤ 1099511627776) ∧ (0 ≤ rec ∧ rec ≤ 1099511627776)
      · exact l_clsettles_ok loss value p a n c L paid rec w hp hn hm hr hf hs hx.1 hx.2
      · exact l_clsettles_out loss value p a n c L paid rec w hp hn hm hr hf hs hx
    · exact l_clsettles_long loss value p a n c L paid rec w hp hn hm hr hf (by omega)

end Go.Proofs.Ytbcmaaoddnaoiaa
