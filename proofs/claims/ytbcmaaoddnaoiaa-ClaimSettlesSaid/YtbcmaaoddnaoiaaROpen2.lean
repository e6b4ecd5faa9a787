/-
  The reference's Open (layer 42): its walk.
-/
import Derived.Test.YtbcmaaoddnaoiaaROpen
namespace Go.Proofs.Ytbcmaaoddnaoiaa
set_option linter.unusedVariables false
set_option linter.unusedSimpArgs false
open Go.RowKit

set_option maxRecDepth 100000 in
set_option maxHeartbeats 6400000 in
theorem c_ropen (p : Pol) (a : Option Addr) (n c : Nat) (L : List (Int × Int)) (w : World) (hp : PolOk w p) (hn : L.length = n) (hm : n ≤ 4096) (hr : Rd w a (cellsW L)) :
    Calls Try.prog 78 #[p.v, .slice a n c] w fun e w' => e = .returned (.tuple #[.int .i64 (openN p L), .int .i64 (openE p L)]) ∧ Below w.heap.size w w' := by
  have HM := fun w h => c_rpmayP p w h
  have HW := Lib.hid (fun n lo hi w => c_rin n lo hi w)
  have HP := Lib.hid hp
  have HR := Lib.hid hr
  have HN := Lib.hid hn
  unfold Pol.v polV at HM ⊢
  clear hp hr hn
  obtain ⟨E, hE⟩ : ∃ E, E = openE p L := ⟨_, rfl⟩
  obtain ⟨N, hNN⟩ : ∃ N, N = openN p L := ⟨_, rfl⟩
  rw [← hE, ← hNN]
  unfold openN at hNN
  rw [← hE] at hNN
  unfold openE at hE
  have B0 := Lib.hid (Blk.new w 57 #[.string p.i, .string p.f, .string p.t, .int .i64 p.sum, .int .i64 p.own, .slice p.ca p.cn p.cc, .int .i64 p.first, .int .i64 p.last, .int .i64 p.share])
  have HB0 := Lib.hid ((Below.refl w.heap.size w).alloc (Nat.le_refl _) (.cells #[.string p.i, .string p.f, .string p.t, .int .i64 p.sum, .int .i64 p.own, .slice p.ca p.cn p.cc, .int .i64 p.first, .int .i64 p.last, .int .i64 p.share] 57))
  cases hmay : p.may
  · rw [hmay] at HM
    obtain rfl : E = 1 := by rw [hE, if_pos (.inl hmay)]
    obtain rfl : N = 0 := by rw [hNN, if_neg (by decide)]
    have HM := Lib.hid HM
    clear hE hNN hmay
    go_enter Try.func78, Try.ntmps78
    go_wp2_with fail
    refine (HM.out _ (HP.out.below HB0.out)).mono ?_
    rintro e w1 ⟨rfl, hb1⟩
    have HB1 := Lib.hid (HB0.out.trans (hb1.mono (by simp)))
    clear hb1
    go_wp2_with fail
    go_ret2
    exact ⟨rfl, HB1.out⟩
  · rw [hmay] at HM
    have HM := Lib.hid HM
    have hfc := mayP_facts (show mayP p.i p.f p.t p.sum p.own p.z p.first p.last p.share = true from hmay)
    obtain ⟨x1, ⟨s0, s1⟩, x2⟩ := hfc
    clear x1 x2
    have HBadE := Lib.hid (fun (h : drawsB L = false) => (show E = 1 ∧ N = 0 from by
      have e1 : E = 1 := by rw [hE, if_pos (.inr h)]
      exact ⟨e1, by rw [hNN, if_neg (by rw [e1]; decide)]⟩))
    have HGoodE := Lib.hid (fun (h : drawsB L = true) => (show E = (if lateB p.first p.last L = true then 11 else if p.sum < sumD L then 10 else 0) from by
      rw [hE, if_neg (by rw [hmay, h]; simp)]))
    have HNN := Lib.hid hNN
    clear hE hNN hmay
    go_enter Try.func78, Try.ntmps78
    go_wp2_with fail
    refine (HM.out _ (HP.out.below HB0.out)).mono ?_
    rintro e w1 ⟨rfl, hb1⟩
    have HB1 := Lib.hid (HB0.out.trans (hb1.mono (by simp)))
    have B1 := Lib.hid (B0.out.below hb1 B0.out.lt)
    have HR1 := Lib.hid (HR.out.below HB1.out)
    clear hb1
    go_wp2_with fail
    go_loopw [6] (fun x wr => ∃ k : Nat, x = .int .i64 k ∧ k ≤ n ∧ Hid (∀ j, j < k → (1 ≤ amW L j ∧ amW L j ≤ 1099511627776) ∧ (0 ≤ dyW L j ∧ dyW L j ≤ 1048576) ∧ (0 < j → dyW L (j - 1) ≤ dyW L j)) ∧ ∃ q, wr = w1.drewN q) (fun x _ => n - (intOf x).toNat)
    case atStart => exact ⟨0, rfl, by omega, (by intro j hj; omega), 0, rfl⟩
    case round =>
      obtain ⟨k, rfl, hk, hA, q, rfl⟩ := hrel
      by_cases hlt : k < n
      · have hkL : k < L.length := by rw [HN.out]; exact hlt
        obtain ⟨b, o, rfl, hb, c0, c1, hall⟩ := draw_at (HR1.out.drewN q) k hkL
        have HBr := Lib.hid (below_drewN HB1.out q)
        have HWr := Lib.hid (fun nq => World.drewN_drewN w1 q nq)
        generalize w1.drewN q = wr at *
        rw [← dyW_get L k hkL] at c0
        rw [← amW_get L k hkL] at c1
        have HBad := Lib.hid (fun h => HBadE.out (draws_bad hkL h))
        by_cases ha1 : 1 ≤ amW L k
        · have tm1 : decide (amW L k < 1) = false := by simp; omega
          by_cases ha2 : amW L k ≤ 1099511627776
          · have tm2 : decide (1099511627776 < amW L k) = false := by simp; omega
            by_cases hd : 0 ≤ dyW L k ∧ dyW L k ≤ 1048576
            · have td := wB_of hd
              rcases Nat.eq_zero_or_pos k with hk0 | hk0
              · subst hk0
                have HA := Lib.hid (show ∀ j, j < 0 + 1 → (1 ≤ amW L j ∧ amW L j ≤ 1099511627776) ∧ (0 ≤ dyW L j ∧ dyW L j ≤ 1048576) ∧ (0 < j → dyW L (j - 1) ≤ dyW L j) from fun j hj => by
                  obtain rfl : j = 0 := by omega
                  exact ⟨⟨ha1, ha2⟩, hd, fun h => by omega⟩)
                clear hall HBad hA
                generalize amW L 0 = am at *
                generalize dyW L 0 = dy at *
                simp only [Nat.zero_mul, Nat.add_zero] at c0 c1
                go_wp2
                go_big_quiet ((go_at_call 76; exact quiet_left0 (HW.out _ _ _ _)))
                go_wp2
                go_roundw
                case rel => exact ⟨0 + 1, by go_num, by omega, HA.out, _, HWr.out _⟩
                case measure => simp [intOf]; omega
              · obtain ⟨q', rfl⟩ : ∃ q', k = q' + 1 := ⟨k - 1, by omega⟩
                have hqL : q' < L.length := by omega
                have cq := hall q' hqL
                rw [← dyW_get L q' hqL] at cq
                have hqn : q' < n := by omega
                have hqi : (q' : Int) < n := by omega
                have hqk : ((q' + 1 : Nat) : Int) < n := by omega
                have ew : IntKind.i64.wrap (((q' + 1 : Nat) : Int) - 1) = (q' : Int) := by
                  have e3 : ((q' + 1 : Nat) : Int) - 1 = (q' : Int) := by omega
                  rw [e3]; exact IntWalk.i64_in _ (by omega)
                have ew2 : IntKind.i64.wrap ((q' : Int) + 1 - 1) = (q' : Int) := by
                  have e3 : (q' : Int) + 1 - 1 = (q' : Int) := by omega
                  rw [e3]; exact IntWalk.i64_in _ (by omega)
                have hp0 : decide ((0 : Int) < ((q' + 1 : Nat) : Int)) = true := by first | (simp; done) | (simp; omega)
                by_cases hle : dyW L q' ≤ dyW L (q' + 1)
                · have HA := Lib.hid (show ∀ j, j < q' + 1 + 1 → (1 ≤ amW L j ∧ amW L j ≤ 1099511627776) ∧ (0 ≤ dyW L j ∧ dyW L j ≤ 1048576) ∧ (0 < j → dyW L (j - 1) ≤ dyW L j) from fun j hj => by
                    rcases Nat.lt_or_ge j (q' + 1) with h | h
                    · exact hA.out j h
                    · obtain rfl : j = q' + 1 := by omega
                      exact ⟨⟨ha1, ha2⟩, hd, fun _ => hle⟩)
                  clear hall HBad hA
                  generalize amW L (q' + 1) = am at *
                  generalize dyW L (q' + 1) = dy at *
                  generalize dyW L q' = py at *
                  have t1 : decide (dy < py) = false := by simp; omega
                  go_wp2
                  go_big_quiet ((go_at_call 76; exact quiet_left0 (HW.out _ _ _ _)))
                  go_wp2
                  go_roundw
                  case rel => exact ⟨q' + 1 + 1, by go_num, by omega, HA.out, _, HWr.out _⟩
                  case measure => simp [intOf]; omega
                · have HF := Lib.hid (HBad.out fun h => hle (h.2.2 (by omega)))
                  clear hall HBad hA
                  generalize amW L (q' + 1) = am at *
                  generalize dyW L (q' + 1) = dy at *
                  generalize dyW L q' = py at *
                  have t1 : decide (dy < py) = true := by simp; omega
                  go_wp2
                  go_big_quiet ((go_at_call 76; exact quiet_left0 (HW.out _ _ _ _)))
                  go_wp2
                  go_ret2
                  rw [HF.out.1, HF.out.2]
                  exact ⟨rfl, below_drewN HBr.out _⟩
            · have td := wB_off hd
              have HF := Lib.hid (HBad.out fun h => hd h.2.1)
              clear hall HBad hA hd
              generalize amW L k = am at *
              generalize dyW L k = dy at *
              go_wp2
              go_big_quiet ((go_at_call 76; exact quiet_left0 (HW.out _ _ _ _)))
              go_wp2
              go_ret2
              rw [HF.out.1, HF.out.2]
              exact ⟨rfl, below_drewN HBr.out _⟩
          · have HF := Lib.hid (HBad.out fun h => ha2 h.1.2)
            clear hall HBad hA
            generalize amW L k = am at *
            generalize dyW L k = dy at *
            have t2 : decide (1099511627776 < am) = true := by simp; omega
            go_wp2
            go_big_quiet ((go_at_call 76; exact quiet_left0 (HW.out _ _ _ _)))
            go_wp2
            go_ret2
            rw [HF.out.1, HF.out.2]
            exact ⟨rfl, below_drewN HBr.out _⟩
        · have HF := Lib.hid (HBad.out fun h => ha1 h.1.1)
          clear hall HBad hA
          generalize amW L k = am at *
          generalize dyW L k = dy at *
          have t2 : decide (am < 1) = true := by simp; omega
          go_wp2
          go_big_quiet ((go_at_call 76; exact quiet_left0 (HW.out _ _ _ _)))
          go_wp2
          go_ret2
          rw [HF.out.1, HF.out.2]
          exact ⟨rfl, below_drewN HBr.out _⟩
      · obtain rfl : k = n := by omega
        have hdr : drawsB L = true := by unfold drawsB; simp only [decide_eq_true_eq]; rw [HN.out]; exact hA.out
        have HE := Lib.hid (HGoodE.out hdr)
        have HPos := Lib.hid (draws_pos hdr)
        have HB5 := Lib.hid (below_drewN HB1.out q)
        have B5 := Lib.hid (B1.out.drewN q)
        have HR5 := Lib.hid (HR1.out.drewN q)
        clear hdr hA HB1 B1 HR1 HBadE HGoodE
        generalize w1.drewN q = w5 at *
        have k3 := B5.out.cell 3 rfl
        have k6 := B5.out.cell 6 rfl
        have k7 := B5.out.cell 7 rfl
        generalize hbx : w.heap.size = bx at *
        have HBx := Lib.hid hbx
        clear hbx
        go_wp2
        go_loopw [7, 8, 9] (fun x y z wr => ∃ (k' : Nat) (u : Int) (l : Bool), x = .int .i64 u ∧ y = .bool l ∧ z = .int .i64 k' ∧ k' ≤ k ∧ -1099511627776 ≤ u ∧ u ≤ 1099511627776 ∧ Hid (l = lateB p.first p.last (L.take k')) ∧ Hid ((0 ≤ u ∧ u = p.sum - sumD (L.take k')) ∨ (u < 0 ∧ p.sum < sumD L)) ∧ ∃ q, wr = w5.drewN q) (fun _ _ z _ => k - (intOf z).toNat)
        case atStart => exact ⟨0, p.sum, false, rfl, rfl, rfl, by omega, by omega, by omega, rfl, .inl ⟨by omega, by simp [sumD]⟩, 0, rfl⟩
        case round =>
          obtain ⟨k', u, l, rfl, rfl, rfl, hk', u0, u1, hl, hu, q2, rfl⟩ := hrel
          by_cases hlt2 : k' < k
          · have hkL : k' < L.length := by rw [HN.out]; exact hlt2
            obtain ⟨b, o, rfl, hb, c0, c1, hall⟩ := draw_at (HR5.out.drewN q2) k' hkL
            have r6 := (B5.out.drewN q2).cell 6 rfl
            have r7 := (B5.out.drewN q2).cell 7 rfl
            have HWr := Lib.hid (fun nq => World.drewN_drewN w5 q2 nq)
            have hts := sumD_take_succ L k' hkL
            have hls := lateB_take_succ p.first p.last L k' hkL
            rw [← hl.out] at hls
            obtain ⟨d0, d1, _⟩ := HPos.out _ (List.getElem_mem hkL)
            have hle := sumD_le (fun x hx => by have := HPos.out x hx; omega) (L := L) (k' + 1)
            have HU := Lib.hid (show (0 ≤ u → ((0 ≤ u - L[k'].2 ∧ u - L[k'].2 = p.sum - sumD (L.take (k' + 1))) ∨ (u - L[k'].2 < 0 ∧ p.sum < sumD L))) ∧ (u < 0 → u < 0 ∧ p.sum < sumD L) from by
              have := hu.out
              refine ⟨fun h => ?_, fun h => ?_⟩
              · rw [hts]
                rw [hts] at hle
                omega
              · omega)
            have HL := Lib.hid hls.symm
            clear hts hall hle hls k6 k7 k3 hl hu
            unfold lateD at HL
            generalize w5.drewN q2 = wr at *
            generalize L[k'] = d at *
            obtain ⟨dy, am⟩ := d
            simp only at c0 c1 d0 d1 HU HL
            by_cases hu0 : 0 ≤ u
            · have HU2 := Lib.hid (HU.out.1 hu0)
              have e1 : IntKind.i64.wrap (u - am) = u - am := IntWalk.i64_in _ (by omega)
              clear HU
              cases l
              · by_cases h1 : dy < p.first
                · have t1 : decide (dy < p.first) = true := decide_eq_true h1
                  have HL2 := Lib.hid (show true = lateB p.first p.last (L.take (k' + 1)) from by rw [← HL.out]; rw [t1]; rfl)
                  clear HL
                  go_wp2
                  go_big_quiet (fail)
                  go_wp2
                  go_roundw
                  case rel => exact ⟨k' + 1, u - am, true, rfl, rfl, by go_num, by omega, by omega, by omega, HL2.out, HU2.out, _, HWr.out _⟩
                  case measure => simp [intOf]; omega
                · have t1 : decide (dy < p.first) = false := decide_eq_false h1
                  by_cases h2 : p.last < dy
                  · have t2 : decide (p.last < dy) = true := decide_eq_true h2
                    have HL2 := Lib.hid (show true = lateB p.first p.last (L.take (k' + 1)) from by rw [← HL.out]; rw [t1, t2]; rfl)
                    clear HL
                    go_wp2
                    go_big_quiet (fail)
                    go_wp2
                    go_roundw
                    case rel => exact ⟨k' + 1, u - am, true, rfl, rfl, by go_num, by omega, by omega, by omega, HL2.out, HU2.out, _, HWr.out _⟩
                    case measure => simp [intOf]; omega
                  · have t2 : decide (p.last < dy) = false := decide_eq_false h2
                    have HL2 := Lib.hid (show false = lateB p.first p.last (L.take (k' + 1)) from by rw [← HL.out]; rw [t1, t2]; rfl)
                    clear HL
                    go_wp2
                    go_big_quiet (fail)
                    go_wp2
                    go_roundw
                    case rel => exact ⟨k' + 1, u - am, false, rfl, rfl, by go_num, by omega, by omega, by omega, HL2.out, HU2.out, _, HWr.out _⟩
                    case measure => simp [intOf]; omega
              · skip
                have HL2 := Lib.hid (show true = lateB p.first p.last (L.take (k' + 1)) from by rw [← HL.out]; rw [Bool.true_or])
                clear HL
                go_wp2
                go_big_quiet (fail)
                go_wp2
                go_roundw
                case rel => exact ⟨k' + 1, u - am, true, rfl, rfl, by go_num, by omega, by omega, by omega, HL2.out, HU2.out, _, HWr.out _⟩
                case measure => simp [intOf]; omega
            · have HU2 := Lib.hid (Or.inr (a := 0 ≤ u ∧ u = p.sum - sumD (L.take (k' + 1))) (HU.out.2 (by omega)))
              clear HU
              cases l
              · by_cases h1 : dy < p.first
                · have t1 : decide (dy < p.first) = true := decide_eq_true h1
                  have HL2 := Lib.hid (show true = lateB p.first p.last (L.take (k' + 1)) from by rw [← HL.out]; rw [t1]; rfl)
                  clear HL
                  go_wp2
                  go_big_quiet (fail)
                  go_wp2
                  go_roundw
                  case rel => exact ⟨k' + 1, u, true, rfl, rfl, by go_num, by omega, by omega, by omega, HL2.out, HU2.out, _, HWr.out _⟩
                  case measure => simp [intOf]; omega
                · have t1 : decide (dy < p.first) = false := decide_eq_false h1
                  by_cases h2 : p.last < dy
                  · have t2 : decide (p.last < dy) = true := decide_eq_true h2
                    have HL2 := Lib.hid (show true = lateB p.first p.last (L.take (k' + 1)) from by rw [← HL.out]; rw [t1, t2]; rfl)
                    clear HL
                    go_wp2
                    go_big_quiet (fail)
                    go_wp2
                    go_roundw
                    case rel => exact ⟨k' + 1, u, true, rfl, rfl, by go_num, by omega, by omega, by omega, HL2.out, HU2.out, _, HWr.out _⟩
                    case measure => simp [intOf]; omega
                  · have t2 : decide (p.last < dy) = false := decide_eq_false h2
                    have HL2 := Lib.hid (show false = lateB p.first p.last (L.take (k' + 1)) from by rw [← HL.out]; rw [t1, t2]; rfl)
                    clear HL
                    go_wp2
                    go_big_quiet (fail)
                    go_wp2
                    go_roundw
                    case rel => exact ⟨k' + 1, u, false, rfl, rfl, by go_num, by omega, by omega, by omega, HL2.out, HU2.out, _, HWr.out _⟩
                    case measure => simp [intOf]; omega
              · skip
                have HL2 := Lib.hid (show true = lateB p.first p.last (L.take (k' + 1)) from by rw [← HL.out]; rw [Bool.true_or])
                clear HL
                go_wp2
                go_big_quiet (fail)
                go_wp2
                go_roundw
                case rel => exact ⟨k' + 1, u, true, rfl, rfl, by go_num, by omega, by omega, by omega, HL2.out, HU2.out, _, HWr.out _⟩
                case measure => simp [intOf]; omega
          · obtain rfl : k' = k := by omega
            have h1 := hu.out
            have h2 := hl.out
            rw [List.take_of_length_le (by rw [HN.out]; exact Nat.le_refl _)] at h1 h2
            rw [← h2] at HE
            clear h2 hl hu k3 k6 k7
            cases l
            · have hE := HE.out
              rw [if_neg (by decide)] at hE
              by_cases hneg : u < 0
              · have hsh : E = 10 := by rw [hE, if_pos (by omega)]
                have hnz : N = 0 := by rw [HNN.out, if_neg (by rw [hsh]; decide)]
                have HQ := Lib.hid (And.intro hsh hnz)
                clear hsh hnz hE HE HNN h1
                go_wp2
                go_ret2
                rw [HQ.out.1, HQ.out.2]
                exact ⟨rfl, by rw [HBx.out]; exact below_drewN HB5.out _⟩
              · have hE0 : E = 0 := by rw [hE, if_neg (by omega)]
                have hN0 : N = u := by rw [HNN.out, if_pos hE0]; omega
                have HQ := Lib.hid (And.intro hE0 hN0)
                clear hE0 hN0 hE HE HNN h1
                go_wp2
                go_ret2
                rw [HQ.out.1, HQ.out.2]
                exact ⟨rfl, by rw [HBx.out]; exact below_drewN HB5.out _⟩
            · have hE := HE.out
              rw [if_pos rfl] at hE
              have hnz : N = 0 := by rw [HNN.out, if_neg (by rw [hE]; decide)]
              have HQ := Lib.hid (And.intro hE hnz)
              clear hnz hE HE HNN h1
              go_wp2
              go_ret2
              rw [HQ.out.1, HQ.out.2]
              exact ⟨rfl, by rw [HBx.out]; exact below_drewN HB5.out _⟩

end Go.Proofs.Ytbcmaaoddnaoiaa
