/-
  The law AverageOrder: its walk.
-/
import Derived.Test.YtbcmaaoddnaoiaaLASums
import Derived.Test.YtbcmaaoddnaoiaaFewQ
namespace Go.Proofs.Ytbcmaaoddnaoiaa
set_option linter.unusedVariables false
set_option linter.unusedSimpArgs false
open Go.RowKit

/-- Why the law AverageOrder may say nothing. -/
def orderOut (L : List (ByteArray × Int)) (gs : List Int) (spent fr nn : Int) : Prop :=
  fewG L gs.length = false ∨ gs.length ≠ L.length ∨ fr < 0 ∨ (gs.length : Int) ≤ fr ∨ (valsI L).getD fr.toNat 0 < gs.getD fr.toNat 0 ∨ nn < 0 ∨ gs.getD fr.toNat 0 < nn ∨ spent < 0 ∨ 1099511627776 < spent

set_option maxRecDepth 100000 in
set_option maxHeartbeats 12800000 in
theorem l_aorder_out (a b : Option Addr) (n c m d : Nat) (L : List (ByteArray × Int)) (gs : List Int) (spent fr nn : Int) (w : World) (hn : L.length = n) (hm : n ≤ 9223372036854775807) (hr : Rd w a (cellsI L)) (hs : ∀ p ∈ L, p.1.size ≤ 9223372036854775807) (hg : gs.length = m) (hgm : m ≤ 9223372036854775807) (hb : Rd w b (vals .i64 gs)) (h : orderOut L gs spent fr nn) :
    Calls Try.prog 6 #[.slice a n c, .slice b m d, .int .i64 spent, .int .i64 fr, .int .i64 nn] w fun e w' => e = .returned (.bool true) ∧ Below w.heap.size w w' := by
  unfold orderOut at h
  rw [hn, hg] at h
  have HF := Lib.hid (fun w hr => c_fewq a b n c m d L w hn hm hgm hr hs)
  have HR := Lib.hid hr
  have HB := Lib.hid hb
  have HN := Lib.hid hn
  have HG := Lib.hid hg
  clear hr hb hs hn hg
  by_cases h1 : fewG L m = false
  · rw [h1] at HF
    clear h h1
    go_enter Try.func6, Try.ntmps6
    go_wp2_with fail
    refine (c_awake43 _).mono ?_
    rintro e w1 ⟨rfl, hb1⟩
    have HR1 := Lib.hid (HR.out.below hb1)
    go_wp2_with fail
    go_quiet ((go_at_call 16; exact quiet_left0 (HF.out _ HR1.out)))
    go_wp2_with fail
    go_ret
    exact ⟨rfl, below_drewN hb1 _⟩
  · have h1' : fewG L m = true := by simpa using h1
    rw [h1'] at HF
    by_cases h2 : m = n
    · subst h2
      by_cases h3 : 0 ≤ fr ∧ fr < m
      · obtain ⟨h3a, h3b⟩ := h3
        obtain ⟨k, rfl⟩ := Int.eq_ofNat_of_zero_le h3a
        simp only [Int.toNat_natCast] at h
        have hk : k < m := by omega
        have h4 : (valsI L).getD k 0 < gs.getD k 0 ∨ nn < 0 ∨ gs.getD k 0 < nn ∨ spent < 0 ∨ 1099511627776 < spent := by
          rcases h with h | h | h | h | h
          · exact absurd h h1
          · exact absurd rfl h
          · omega
          · omega
          · exact h
        clear h h1 h1'
        have e1 : decide ((k : Int) < 0) = false := by simp
        have e2 : decide ((m : Int) ≤ k) = false := by simpa using hk
        by_cases g1 : (valsI L).getD k 0 < gs.getD k 0
        · go_enter Try.func6, Try.ntmps6
          go_wp2_with fail
          refine (c_awake43 _).mono ?_
          rintro e w1 ⟨rfl, hb1⟩
          have HR1 := Lib.hid (HR.out.below hb1)
          have hkL : k < L.length := by rw [HN.out]; exact hk
          have hkg : k < gs.length := by rw [HG.out]; exact hk
          obtain ⟨b5, o5, rfl, hb5, c5, c6⟩ := intr_at HR1.out k hkL
          rw [← valsI_getD L k hkL] at c6
          obtain ⟨b6, o6, rfl, hb6, hall6, d5⟩ := (HB.out.below hb1).at k (by simpa using hkg)
          clear hall6
          rw [vals_getD gs k hkg] at d5
          generalize (valsI L).getD k 0 = v at *
          generalize gs.getD k 0 = g at *
          generalize L[k].1 = sx at *
          have f1 : decide (v < g) = true := by simpa using g1
          go_wp2_with fail
          go_quiet ((go_at_call 16; exact quiet_left0 (HF.out _ HR1.out)))
          go_wp2_with fail
          go_ret
          exact ⟨rfl, below_drewN hb1 _⟩
        · by_cases g2 : nn < 0
          · go_enter Try.func6, Try.ntmps6
            go_wp2_with fail
            refine (c_awake43 _).mono ?_
            rintro e w1 ⟨rfl, hb1⟩
            have HR1 := Lib.hid (HR.out.below hb1)
            have hkL : k < L.length := by rw [HN.out]; exact hk
            have hkg : k < gs.length := by rw [HG.out]; exact hk
            obtain ⟨b5, o5, rfl, hb5, c5, c6⟩ := intr_at HR1.out k hkL
            rw [← valsI_getD L k hkL] at c6
            obtain ⟨b6, o6, rfl, hb6, hall6, d5⟩ := (HB.out.below hb1).at k (by simpa using hkg)
            clear hall6
            rw [vals_getD gs k hkg] at d5
            generalize (valsI L).getD k 0 = v at *
            generalize gs.getD k 0 = g at *
            generalize L[k].1 = sx at *
            have f1 : decide (v < g) = false := by simpa using g1
            have f2 : decide (nn < 0) = true := by simpa using g2
            go_wp2_with fail
            go_quiet ((go_at_call 16; exact quiet_left0 (HF.out _ HR1.out)))
            go_wp2_with fail
            go_ret
            exact ⟨rfl, below_drewN hb1 _⟩
          · by_cases g3 : gs.getD k 0 < nn
            · go_enter Try.func6, Try.ntmps6
              go_wp2_with fail
              refine (c_awake43 _).mono ?_
              rintro e w1 ⟨rfl, hb1⟩
              have HR1 := Lib.hid (HR.out.below hb1)
              have hkL : k < L.length := by rw [HN.out]; exact hk
              have hkg : k < gs.length := by rw [HG.out]; exact hk
              obtain ⟨b5, o5, rfl, hb5, c5, c6⟩ := intr_at HR1.out k hkL
              rw [← valsI_getD L k hkL] at c6
              obtain ⟨b6, o6, rfl, hb6, hall6, d5⟩ := (HB.out.below hb1).at k (by simpa using hkg)
              clear hall6
              rw [vals_getD gs k hkg] at d5
              generalize (valsI L).getD k 0 = v at *
              generalize gs.getD k 0 = g at *
              generalize L[k].1 = sx at *
              have f1 : decide (v < g) = false := by simpa using g1
              have f2 : decide (nn < 0) = false := by simpa using g2
              have f3 : decide (g < nn) = true := by simpa using g3
              go_wp2_with fail
              go_quiet ((go_at_call 16; exact quiet_left0 (HF.out _ HR1.out)))
              go_wp2_with fail
              go_ret
              exact ⟨rfl, below_drewN hb1 _⟩
            · by_cases g4 : spent < 0
              · go_enter Try.func6, Try.ntmps6
                go_wp2_with fail
                refine (c_awake43 _).mono ?_
                rintro e w1 ⟨rfl, hb1⟩
                have HR1 := Lib.hid (HR.out.below hb1)
                have hkL : k < L.length := by rw [HN.out]; exact hk
                have hkg : k < gs.length := by rw [HG.out]; exact hk
                obtain ⟨b5, o5, rfl, hb5, c5, c6⟩ := intr_at HR1.out k hkL
                rw [← valsI_getD L k hkL] at c6
                obtain ⟨b6, o6, rfl, hb6, hall6, d5⟩ := (HB.out.below hb1).at k (by simpa using hkg)
                clear hall6
                rw [vals_getD gs k hkg] at d5
                generalize (valsI L).getD k 0 = v at *
                generalize gs.getD k 0 = g at *
                generalize L[k].1 = sx at *
                have f1 : decide (v < g) = false := by simpa using g1
                have f2 : decide (nn < 0) = false := by simpa using g2
                have f3 : decide (g < nn) = false := by simpa using g3
                have f4 : decide (spent < 0) = true := by simpa using g4
                go_wp2_with fail
                go_quiet ((go_at_call 16; exact quiet_left0 (HF.out _ HR1.out)))
                go_wp2_with fail
                go_ret
                exact ⟨rfl, below_drewN hb1 _⟩
              · have g5 : 1099511627776 < spent := by omega
                go_enter Try.func6, Try.ntmps6
                go_wp2_with fail
                refine (c_awake43 _).mono ?_
                rintro e w1 ⟨rfl, hb1⟩
                have HR1 := Lib.hid (HR.out.below hb1)
                have hkL : k < L.length := by rw [HN.out]; exact hk
                have hkg : k < gs.length := by rw [HG.out]; exact hk
                obtain ⟨b5, o5, rfl, hb5, c5, c6⟩ := intr_at HR1.out k hkL
                rw [← valsI_getD L k hkL] at c6
                obtain ⟨b6, o6, rfl, hb6, hall6, d5⟩ := (HB.out.below hb1).at k (by simpa using hkg)
                clear hall6
                rw [vals_getD gs k hkg] at d5
                generalize (valsI L).getD k 0 = v at *
                generalize gs.getD k 0 = g at *
                generalize L[k].1 = sx at *
                have f1 : decide (v < g) = false := by simpa using g1
                have f2 : decide (nn < 0) = false := by simpa using g2
                have f3 : decide (g < nn) = false := by simpa using g3
                have f4 : decide (spent < 0) = false := by simpa using g4
                have f5 : decide (1099511627776 < spent) = true := by simpa using g5
                go_wp2_with fail
                go_quiet ((go_at_call 16; exact quiet_left0 (HF.out _ HR1.out)))
                go_wp2_with fail
                go_ret
                exact ⟨rfl, below_drewN hb1 _⟩
      · clear h h1 h1'
        by_cases g1 : fr < 0
        · have e1 : decide (fr < 0) = true := by simpa using g1
          go_enter Try.func6, Try.ntmps6
          go_wp2_with fail
          refine (c_awake43 _).mono ?_
          rintro e w1 ⟨rfl, hb1⟩
          have HR1 := Lib.hid (HR.out.below hb1)
          go_wp2_with fail
          go_quiet ((go_at_call 16; exact quiet_left0 (HF.out _ HR1.out)))
          go_wp2_with fail
          go_ret
          exact ⟨rfl, below_drewN hb1 _⟩
        · have g2 : (m : Int) ≤ fr := by omega
          have e1 : decide (fr < 0) = false := by simpa using g1
          have e2 : decide ((m : Int) ≤ fr) = true := by simpa using g2
          go_enter Try.func6, Try.ntmps6
          go_wp2_with fail
          refine (c_awake43 _).mono ?_
          rintro e w1 ⟨rfl, hb1⟩
          have HR1 := Lib.hid (HR.out.below hb1)
          go_wp2_with fail
          go_quiet ((go_at_call 16; exact quiet_left0 (HF.out _ HR1.out)))
          go_wp2_with fail
          go_ret
          exact ⟨rfl, below_drewN hb1 _⟩
    · clear h h1 h1'
      have t1 : ((m : Int) != n) = true := by simp; omega
      have t2 : ((m : Int) == n) = false := by simp; omega
      go_enter Try.func6, Try.ntmps6
      go_wp2_with fail
      refine (c_awake43 _).mono ?_
      rintro e w1 ⟨rfl, hb1⟩
      have HR1 := Lib.hid (HR.out.below hb1)
      go_wp2_with fail
      go_quiet ((go_at_call 16; exact quiet_left0 (HF.out _ HR1.out)))
      go_wp2_with fail
      go_ret
      exact ⟨rfl, below_drewN hb1 _⟩

end Go.Proofs.Ytbcmaaoddnaoiaa
