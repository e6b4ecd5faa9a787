/-
  The reference's Can, Settle (layer 44): their walks.
-/
import Derived.Test.YtbcmaaoddnaoiaaROpen2
namespace Go.Proofs.Ytbcmaaoddnaoiaa
set_option linter.unusedVariables false
set_option linter.unusedSimpArgs false
open Go.RowKit

set_option maxRecDepth 100000 in
set_option maxHeartbeats 1600000 in
theorem c_rcan (p : Pol) (loss value : Int) (w : World) (hp : PolOk w p) :
    Calls Try.prog 79 #[p.v, .int .i64 loss, .int .i64 value] w fun e w' => e = .returned (.bool (p.tells loss value)) ∧ Below w.heap.size w w' := by
  have HM := fun w h => c_rpmayP p w h
  have HV := fun w => c_ramount value w
  have HL := fun w => c_ramount loss w
  have HP := Lib.hid hp
  unfold Pol.v polV at HM ⊢
  have HB0 := Lib.hid ((Below.refl w.heap.size w).alloc (Nat.le_refl _) (.cells #[.string p.i, .string p.f, .string p.t, .int .i64 p.sum, .int .i64 p.own, .slice p.ca p.cn p.cc, .int .i64 p.first, .int .i64 p.last, .int .i64 p.share] 57))
  obtain ⟨T, hT⟩ : ∃ T, T = p.tells loss value := ⟨_, rfl⟩
  rw [← hT]
  have hT2 : T = (p.may && decide (1 ≤ value) && amtB value && amtB loss) := by
    rw [hT]
    unfold Pol.tells tellsP wB amtB
    change (p.may && _ && _) = _
    cases p.may
    · rfl
    · rw [Bool.eq_iff_iff]; simp; omega
  clear hT hp
  cases hmay : p.may
  · rw [hmay] at HM hT2
    have HM := Lib.hid HM
    have HT := Lib.hid (show T = false by rw [hT2]; rfl)
    clear hT2 hmay
    go_enter Try.func79, Try.ntmps79
    go_wp2_with fail
    refine (HM.out _ (HP.out.below HB0.out)).mono ?_
    rintro e w1 ⟨rfl, hb1⟩
    have HB1 := Lib.hid (HB0.out.trans (hb1.mono (by simp)))
    clear hb1
    go_wp2_with fail
    go_ret
    exact ⟨ret_b HT.out.symm, HB1.out⟩
  · rw [hmay] at HM hT2
    have HM := Lib.hid HM
    by_cases h1 : 1 ≤ value
    · rw [decide_eq_true h1] at hT2
      cases hv : amtB value
      · rw [hv] at HV hT2
        have HV := Lib.hid HV
        have HT := Lib.hid (show T = false by rw [hT2]; rfl)
        clear hT2 hmay hv
        go_enter Try.func79, Try.ntmps79
        go_wp2_with fail
        refine (HM.out _ (HP.out.below HB0.out)).mono ?_
        rintro e w1 ⟨rfl, hb1⟩
        have HB1 := Lib.hid (HB0.out.trans (hb1.mono (by simp)))
        clear hb1
        go_wp2_with fail
        refine (HV.out _).mono ?_
        rintro e w2 ⟨rfl, rfl⟩
        go_wp2_with fail
        go_ret
        exact ⟨ret_b HT.out.symm, HB1.out⟩
      · rw [hv] at HV hT2
        have HV := Lib.hid HV
        have HL := Lib.hid HL
        have HT := Lib.hid (show T = amtB loss by rw [hT2]; simp)
        clear hT2 hmay hv
        go_enter Try.func79, Try.ntmps79
        go_wp2_with fail
        refine (HM.out _ (HP.out.below HB0.out)).mono ?_
        rintro e w1 ⟨rfl, hb1⟩
        have HB1 := Lib.hid (HB0.out.trans (hb1.mono (by simp)))
        clear hb1
        go_wp2_with fail
        refine (HV.out _).mono ?_
        rintro e w2 ⟨rfl, rfl⟩
        go_wp2_with fail
        refine (HL.out _).mono ?_
        rintro e w3 ⟨rfl, rfl⟩
        go_wp2_with fail
        go_ret
        exact ⟨ret_b HT.out.symm, HB1.out⟩
    · rw [decide_eq_false h1] at hT2
      have HT := Lib.hid (show T = false by rw [hT2]; rfl)
      have h2 : value < 1 := by omega
      clear hT2 hmay
      go_enter Try.func79, Try.ntmps79
      go_wp2_with fail
      refine (HM.out _ (HP.out.below HB0.out)).mono ?_
      rintro e w1 ⟨rfl, hb1⟩
      have HB1 := Lib.hid (HB0.out.trans (hb1.mono (by simp)))
      clear hb1
      go_wp2_with fail
      go_ret
      exact ⟨ret_b HT.out.symm, HB1.out⟩

theorem Pol.tells_facts {p : Pol} {loss value : Int} (h : p.tells loss value = true) : p.may = true ∧ (1 ≤ value ∧ value ≤ 1099511627776) ∧ 0 ≤ loss ∧ loss ≤ 1099511627776 := by
  unfold Pol.tells tellsP at h
  rw [Bool.and_eq_true, Bool.and_eq_true] at h
  exact ⟨h.1.1, wB_t h.1.2, wB_t h.2⟩
theorem openN_bd {p : Pol} {L : List (Int × Int)} (h : openE p L = 0) : openN p L ≤ p.sum := by
  unfold openN
  rw [if_pos h]
  unfold openE at h
  by_cases h1 : p.may = false ∨ drawsB L = false
  · rw [if_pos h1] at h; omega
  · have hd : drawsB L = true := by cases hx : drawsB L; · exact absurd (.inr hx) h1
                                    · rfl
    have := sumD_le (fun x hx => by have := draws_pos hd x hx; omega) (L := L) 0
    omega

set_option maxRecDepth 100000 in
set_option maxHeartbeats 3200000 in
theorem c_rsettle (p : Pol) (a : Option Addr) (n c : Nat) (L : List (Int × Int)) (loss value : Int) (w : World) (hp : PolOk w p) (hn : L.length = n) (hm : n ≤ 4096) (hr : Rd w a (cellsW L)) :
    Calls Try.prog 42 #[.int .i64 loss, .int .i64 value, p.v, .slice a n c] w fun e w' => e = .returned (.tuple #[.int .i64 (setN p L loss value), .int .i64 (setE p L loss value)]) ∧ Below w.heap.size w w' := by
  have HO := fun w hp hr => c_ropen p a n c L w hp hn hm hr
  have HCan := fun w h => c_rcan p loss value w h
  have HPay := fun w (ht : p.tells loss value = true) => c_rppays p loss value w (Pol.tells_facts ht).1 (Pol.tells_facts ht).2.1 (Pol.tells_facts ht).2.2
  have HP := Lib.hid hp
  have HR := Lib.hid hr
  unfold Pol.v polV at HO HPay HCan ⊢
  have B0 := Lib.hid (Blk.new w 57 #[.string p.i, .string p.f, .string p.t, .int .i64 p.sum, .int .i64 p.own, .slice p.ca p.cn p.cc, .int .i64 p.first, .int .i64 p.last, .int .i64 p.share])
  have HB0 := Lib.hid ((Below.refl w.heap.size w).alloc (Nat.le_refl _) (.cells #[.string p.i, .string p.f, .string p.t, .int .i64 p.sum, .int .i64 p.own, .slice p.ca p.cn p.cc, .int .i64 p.first, .int .i64 p.last, .int .i64 p.share] 57))
  unfold setN setE
  clear hp hr hn
  generalize openE p L = E at *
  generalize openN p L = N at *
  generalize p.pays loss value = py at *
  by_cases hE : E = 0
  · subst hE
    have HO := Lib.hid HO
    cases ht : p.tells loss value
    · rw [ht] at HCan
      have HCan := Lib.hid HCan
      clear HPay ht
      go_enter Try.func42, Try.ntmps42
      go_wp2_with fail
      refine (HO.out _ (HP.out.below HB0.out) (HR.out.below HB0.out)).mono ?_
      rintro e w1 ⟨rfl, hb1⟩
      have HB1 := Lib.hid (HB0.out.trans (hb1.mono (by simp)))
      have B1 := Lib.hid (B0.out.below hb1 B0.out.lt)
      have g0 := B1.out.cell 0 rfl
      have g1 := B1.out.cell 1 rfl
      have g2 := B1.out.cell 2 rfl
      have g3 := B1.out.cell 3 rfl
      have g4 := B1.out.cell 4 rfl
      have g5 := B1.out.cell 5 rfl
      have g6 := B1.out.cell 6 rfl
      have g7 := B1.out.cell 7 rfl
      have g8 := B1.out.cell 8 rfl
      clear hb1
      go_wp2_with fail
      refine (HCan.out _ (HP.out.below HB1.out)).mono ?_
      rintro e w2 ⟨rfl, hb2⟩
      have HB2 := Lib.hid (HB1.out.trans (hb2.mono HB1.out.size))
      clear hb2
      go_wp2_with fail
      go_ret2
      exact ⟨rfl, HB2.out⟩
    · rw [ht] at HCan
      have HCan := Lib.hid HCan
      have HPay := Lib.hid (fun w => HPay w ht)
      clear ht
      go_enter Try.func42, Try.ntmps42
      go_wp2_with fail
      refine (HO.out _ (HP.out.below HB0.out) (HR.out.below HB0.out)).mono ?_
      rintro e w1 ⟨rfl, hb1⟩
      have HB1 := Lib.hid (HB0.out.trans (hb1.mono (by simp)))
      have B1 := Lib.hid (B0.out.below hb1 B0.out.lt)
      have g0 := B1.out.cell 0 rfl
      have g1 := B1.out.cell 1 rfl
      have g2 := B1.out.cell 2 rfl
      have g3 := B1.out.cell 3 rfl
      have g4 := B1.out.cell 4 rfl
      have g5 := B1.out.cell 5 rfl
      have g6 := B1.out.cell 6 rfl
      have g7 := B1.out.cell 7 rfl
      have g8 := B1.out.cell 8 rfl
      clear hb1
      go_wp2_with fail
      refine (HCan.out _ (HP.out.below HB1.out)).mono ?_
      rintro e w2 ⟨rfl, hb2⟩
      have HB2 := Lib.hid (HB1.out.trans (hb2.mono HB1.out.size))
      have B2 := Lib.hid (B1.out.below hb2 B1.out.lt)
      clear g0 g1 g2 g3 g4 g5 g6 g7 g8
      have g0 := B2.out.cell 0 rfl
      have g1 := B2.out.cell 1 rfl
      have g2 := B2.out.cell 2 rfl
      have g3 := B2.out.cell 3 rfl
      have g4 := B2.out.cell 4 rfl
      have g5 := B2.out.cell 5 rfl
      have g6 := B2.out.cell 6 rfl
      have g7 := B2.out.cell 7 rfl
      have g8 := B2.out.cell 8 rfl
      clear hb2
      go_wp2_with fail
      refine (HPay.out _).mono ?_
      rintro e w3 ⟨rfl, hb3⟩
      have HB3 := Lib.hid (HB2.out.trans (hb3.mono HB2.out.size))
      clear hb3 g0 g1 g2 g3 g4 g5 g6 g7 g8
      by_cases hle : N < py
      · have hmn := Lib.hid (show min py N = N by omega)
        go_wp2_with fail
        go_ret2
        exact ⟨by rw [hmn.out]; rfl, HB3.out⟩
      · have hmn := Lib.hid (show min py N = py by omega)
        go_wp2_with fail
        go_ret2
        exact ⟨by rw [hmn.out]; rfl, HB3.out⟩
  · have t1 : (E != 0) = true := by simpa using hE
    have hE2 := Lib.hid hE
    have HO := Lib.hid HO
    rw [if_neg hE, if_neg (fun h => hE h.1)]
    clear hE HPay
    go_enter Try.func42, Try.ntmps42
    go_wp2_with fail
    refine (HO.out _ (HP.out.below HB0.out) (HR.out.below HB0.out)).mono ?_
    rintro e w1 ⟨rfl, hb1⟩
    have HB1 := Lib.hid (HB0.out.trans (hb1.mono (by simp)))
    clear hb1
    go_wp2_with fail
    go_ret2
    exact ⟨rfl, HB1.out⟩

end Go.Proofs.Ytbcmaaoddnaoiaa
