/-
  The reference's Open (layer 42), Can, amount (layer 44); claim.Settle, Subrogate, the reference's Settle: their walks.
-/
import Derived.Test.YtbcmaaoddnaoiaaOpenP
import Derived.Test.YtbcmaaoddnaoiaaClShare
namespace Go.Proofs.Ytbcmaaoddnaoiaa
set_option linter.unusedVariables false
set_option linter.unusedSimpArgs false
open Go.RowKit

theorem c_rpmayP (p : Pol) (w : World) (h : PolOk w p) : Calls Try.prog 40 #[p.v] w fun e w' => e = .returned (.bool p.may) ∧ Below w.heap.size w w' :=
  c_rpmay p.i p.f p.t p.sum p.own p.ca p.cn p.cc p.z p.first p.last p.share w h.hi h.hf h.ht h.hz h.hc h.hn
set_option maxHeartbeats 400000 in
theorem c_subro_ok (x y : Int) (w : World) (hx : 0 ≤ x ∧ x ≤ 1099511627776) (hy : 0 ≤ y ∧ y ≤ 1099511627776) : Calls Try.prog 43 #[.int .i64 x, .int .i64 y] w fun e w' => e = .returned (.tuple #[.int .i64 (min x y), .int .i64 (y - min x y), .int .i64 0]) ∧ w = w' := by
  have HX := fun w => c_clwithin x w
  have HY := fun w => c_clwithin y w
  rw [show amtB x = true from decide_eq_true hx] at HX
  rw [show amtB y = true from decide_eq_true hy] at HY
  have HX := Lib.hid HX
  have HY := Lib.hid HY
  obtain ⟨x0, x1⟩ := hx
  obtain ⟨y0, y1⟩ := hy
  have e1 : IntKind.i64.wrap (y - min x y) = y - min x y := IntWalk.i64_in _ (by omega)
  go_enter Try.func43, Try.ntmps43
  go_wp2_with fail
  refine (HX.out _).mono ?_
  rintro e w1 ⟨rfl, rfl⟩
  go_wp2_with fail
  refine (HY.out _).mono ?_
  rintro e w2 ⟨rfl, rfl⟩
  go_wp2_with fail
  go_ret3
  exact ⟨rfl, rfl⟩
set_option maxHeartbeats 400000 in
theorem c_subro_bad (x y : Int) (w : World) (h : amtB x = false ∨ amtB y = false) : Calls Try.prog 43 #[.int .i64 x, .int .i64 y] w fun e w' => e = .returned (.tuple #[.int .i64 0, .int .i64 0, .int .i64 1]) ∧ w = w' := by
  have HX := fun w => c_clwithin x w
  have HY := fun w => c_clwithin y w
  cases hx : amtB x
  · rw [hx] at HX
    have HX := Lib.hid HX
    clear h hx
    go_enter Try.func43, Try.ntmps43
    go_wp2_with fail
    refine (HX.out _).mono ?_
    rintro e w1 ⟨rfl, rfl⟩
    go_wp2_with fail
    go_ret3
    exact ⟨rfl, rfl⟩
  · have hy : amtB y = false := by rcases h with h | h; · rw [hx] at h; cases h
                                   · exact h
    rw [hx] at HX
    rw [hy] at HY
    have HX := Lib.hid HX
    have HY := Lib.hid HY
    clear h hx hy
    go_enter Try.func43, Try.ntmps43
    go_wp2_with fail
    refine (HX.out _).mono ?_
    rintro e w1 ⟨rfl, rfl⟩
    go_wp2_with fail
    refine (HY.out _).mono ?_
    rintro e w2 ⟨rfl, rfl⟩
    go_wp2_with fail
    go_ret3
    exact ⟨rfl, rfl⟩
set_option maxHeartbeats 400000 in
theorem c_ramount (v : Int) (w : World) : Calls Try.prog 103 #[.int .i64 v] w fun e w' => e = .returned (.bool (amtB v)) ∧ w = w' := by
  unfold amtB
  go_enter Try.func103, Try.ntmps103
  go_wp2
  all_goals (go_ret; exact ⟨ret_b (Bool.eq_iff_iff.2 (by simp; try omega)), rfl⟩)

/-- What a cover still pays; what is wrong. -/
def setE (p : Pol) (L : List (Int × Int)) (loss value : Int) : Int := if openE p L = 0 then (if p.tells loss value = true then 0 else 1) else openE p L
def setN (p : Pol) (L : List (Int × Int)) (loss value : Int) : Int := if openE p L = 0 ∧ p.tells loss value = true then min (p.pays loss value) (openN p L) else 0
set_option maxRecDepth 100000 in
set_option maxHeartbeats 1600000 in
theorem c_settle (p : Pol) (a : Option Addr) (n c : Nat) (L : List (Int × Int)) (loss value : Int) (w : World) (hp : PolOk w p) (hn : L.length = n) (hm : n ≤ 4096) (hr : Rd w a (cellsW L)) :
    Calls Try.prog 41 #[.int .i64 loss, .int .i64 value, p.v, .slice a n c] w fun e w' => e = .returned (.tuple #[.int .i64 (setN p L loss value), .int .i64 (setE p L loss value)]) ∧ Below w.heap.size w w' := by
  have HO := fun w hp hr => c_popen p a n c L w hp hn hm hr
  have HPay := fun w h => c_ppaysP p loss value w h
  have HP := Lib.hid hp
  have HR := Lib.hid hr
  unfold Pol.v polV at HO HPay ⊢
  have B0 := Lib.hid (Blk.new w 57 #[.string p.i, .string p.f, .string p.t, .int .i64 p.sum, .int .i64 p.own, .slice p.ca p.cn p.cc, .int .i64 p.first, .int .i64 p.last, .int .i64 p.share])
  have HB0 := Lib.hid ((Below.refl w.heap.size w).alloc (Nat.le_refl _) (.cells #[.string p.i, .string p.f, .string p.t, .int .i64 p.sum, .int .i64 p.own, .slice p.ca p.cn p.cc, .int .i64 p.first, .int .i64 p.last, .int .i64 p.share] 57))
  unfold setN setE
  clear hp hr hn
  generalize openE p L = E at *
  generalize openN p L = N at *
  generalize p.pays loss value = py at *
  by_cases hE : E = 0
  · subst hE
    have HO := Lib.hid HO
    cases ht : p.tells loss value
    · rw [ht] at HPay
      have HPay := Lib.hid HPay
      clear ht
      go_enter Try.func41, Try.ntmps41
      go_wp2_with fail
      refine (HO.out _ (HP.out.below HB0.out) (HR.out.below HB0.out)).mono ?_
      rintro e w1 ⟨rfl, hb1⟩
      have HB1 := Lib.hid (HB0.out.trans (hb1.mono (by simp)))
      have B1 := Lib.hid (B0.out.below hb1 B0.out.lt)
      have g0 := B1.out.cell 0 rfl
      have g1 := B1.out.cell 1 rfl
      have g2 := B1.out.cell 2 rfl
      have g3 := B1.out.cell 3 rfl
      have g4 := B1.out.cell 4 rfl
      have g5 := B1.out.cell 5 rfl
      have g6 := B1.out.cell 6 rfl
      have g7 := B1.out.cell 7 rfl
      have g8 := B1.out.cell 8 rfl
      clear hb1
      go_wp2_with fail
      refine (HPay.out _ (HP.out.below HB1.out)).mono ?_
      rintro e w2 ⟨rfl, hb2⟩
      have HB2 := Lib.hid (HB1.out.trans (hb2.mono HB1.out.size))
      clear hb2
      go_wp2_with fail
      go_ret2
      exact ⟨rfl, HB2.out⟩
    · rw [ht] at HPay
      have HPay := Lib.hid HPay
      clear ht
      go_enter Try.func41, Try.ntmps41
      go_wp2_with fail
      refine (HO.out _ (HP.out.below HB0.out) (HR.out.below HB0.out)).mono ?_
      rintro e w1 ⟨rfl, hb1⟩
      have HB1 := Lib.hid (HB0.out.trans (hb1.mono (by simp)))
      have B1 := Lib.hid (B0.out.below hb1 B0.out.lt)
      have g0 := B1.out.cell 0 rfl
      have g1 := B1.out.cell 1 rfl
      have g2 := B1.out.cell 2 rfl
      have g3 := B1.out.cell 3 rfl
      have g4 := B1.out.cell 4 rfl
      have g5 := B1.out.cell 5 rfl
      have g6 := B1.out.cell 6 rfl
      have g7 := B1.out.cell 7 rfl
      have g8 := B1.out.cell 8 rfl
      clear hb1
      go_wp2_with fail
      refine (HPay.out _ (HP.out.below HB1.out)).mono ?_
      rintro e w2 ⟨rfl, hb2⟩
      have HB2 := Lib.hid (HB1.out.trans (hb2.mono HB1.out.size))
      clear hb2
      go_wp2_with fail
      go_ret2
      exact ⟨rfl, HB2.out⟩
  · have t1 : (E != 0) = true := by simpa using hE
    have hE2 := Lib.hid hE
    have HO := Lib.hid HO
    rw [if_neg hE, if_neg (fun h => hE h.1)]
    clear hE
    go_enter Try.func41, Try.ntmps41
    go_wp2_with fail
    refine (HO.out _ (HP.out.below HB0.out) (HR.out.below HB0.out)).mono ?_
    rintro e w1 ⟨rfl, hb1⟩
    have HB1 := Lib.hid (HB0.out.trans (hb1.mono (by simp)))
    clear hb1
    go_wp2_with fail
    go_ret2
    exact ⟨rfl, HB1.out⟩

end Go.Proofs.Ytbcmaaoddnaoiaa
