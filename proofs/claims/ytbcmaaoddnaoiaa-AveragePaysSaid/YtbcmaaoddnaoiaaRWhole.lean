/-
  The reference's right and Whole: their walks.
-/
import Derived.Test.YtbcmaaoddnaoiaaRAdj
namespace Go.Proofs.Ytbcmaaoddnaoiaa
set_option linter.unusedVariables false
set_option linter.unusedSimpArgs false
open Go.RowKit

set_option maxHeartbeats 1600000 in
theorem c_rright (a b : Option Addr) (n c m d : Nat) (L : List (ByteArray × Int)) (gs : List Int) (w : World) (hn : L.length = n) (hm : n ≤ 4096) (hr : Rd w a (cellsI L)) (hs : ∀ p ∈ L, p.1.size ≤ 9223372036854775807) (hg : gs.length = m) (hgm : m ≤ 9223372036854775807) (hb : Rd w b (vals .i64 gs)) :
    Calls Try.prog 80 #[.slice a n c, .slice b m d] w fun e w' => e = .returned (.bool (givenB L gs)) ∧ Below w.heap.size w w' := by
  have HM := Lib.hid (fun w hr => c_rmayb a n c L w hn (by omega) hr hs)
  have HR := Lib.hid hr
  have HN := Lib.hid hn
  have HG := Lib.hid hg
  have HB := Lib.hid hb
  clear hr hn hs hg hb
  cases h1 : mayB L
  · have hf : givenB L gs = false := by unfold givenB; rw [h1]; simp
    have HF := Lib.hid hf
    rw [h1] at HM
    clear h1 hf
    go_enter Try.func80, Try.ntmps80
    go_wp2_with (go_at_call 54; refine (HM.out _ HR.out).mono ?_; rintro e w1 ⟨rfl, hb1⟩)
    go_ret
    exact ⟨ret_b HF.out.symm, hb1⟩
  · rw [h1] at HM
    by_cases hmn : m = n
    · subst hmn
      have H1 := Lib.hid h1
      clear h1
      go_enter Try.func80, Try.ntmps80
      go_wp2_with (go_at_call 54; refine (HM.out _ HR.out).mono ?_; rintro e w1 ⟨rfl, hb1⟩; have hB := Lib.hid hb1; clear hb1)
      go_loopw [5] (fun x wr => ∃ k : Nat, x = .int .i64 k ∧ k ≤ m ∧ Hid (∀ i, i < k → 0 ≤ gs.getD i 0 ∧ gs.getD i 0 ≤ (valsI L).getD i 0) ∧ ∃ q, wr = w1.drewN q) (fun x _ => m - (intOf x).toNat)
      case atStart => exact ⟨0, rfl, by omega, by intro i hi; omega, 0, rfl⟩
      case round =>
        obtain ⟨k, rfl, hk, hA, q, rfl⟩ := hrel
        by_cases hlt : k < m
        · have hkL : k < L.length := by rw [HN.out]; exact hlt
          have hkg : k < gs.length := by rw [HG.out]; exact hlt
          obtain ⟨b2, o2, rfl, hb2, hd1, hd2⟩ := intr_at (HR.out.below hB.out) k hkL
          obtain ⟨b1, o1, rfl, hb1, hall, hc⟩ := (HB.out.below hB.out).at k (by simpa using hkg)
          clear hall
          rw [vals_get .i64 gs k hkg] at hc
          have e1 : gs.getD k 0 = gs[k] := by simp [hkg]
          have e2 : (valsI L).getD k 0 = L[k].2 := by simp [valsI, hkL]
          have hbad := Lib.hid (fun h => given_bad (L := L) hkg h)
          have hgood : (0 ≤ gs[k] ∧ gs[k] ≤ L[k].2) → ∀ i, i < k + 1 → 0 ≤ gs.getD i 0 ∧ gs.getD i 0 ≤ (valsI L).getD i 0 := by
            intro h i hi
            by_cases e : i = k
            · subst e; rw [e1, e2]; exact h
            · exact hA.out i (by omega)
          rw [e1, e2] at hbad
          have HGood := Lib.hid hgood
          clear hgood e1 e2
          generalize L[k].1 = s at *
          generalize L[k].2 = v at *
          generalize gs[k] = g at *
          by_cases hg0 : g < 0
          · have HF := Lib.hid (hbad.out (by omega))
            have f1 : decide (g < 0) = true := by simpa using hg0
            go_wp2
            go_quiet (fail)
            go_wp2
            go_ret
            exact ⟨ret_b HF.out.symm, below_drewN (below_drewN hB.out _) _⟩
          · by_cases hg1 : v < g
            · have HF := Lib.hid (hbad.out (by omega))
              have f1 : decide (g < 0) = false := by simpa using hg0
              have f2 : decide (v < g) = true := by simpa using hg1
              go_wp2
              go_quiet (fail)
              go_wp2
              go_ret
              exact ⟨ret_b HF.out.symm, below_drewN (below_drewN hB.out _) _⟩
            · have HH := Lib.hid (HGood.out (by omega))
              have f1 : decide (g < 0) = false := by simpa using hg0
              have f2 : decide (v < g) = false := by simpa using hg1
              go_wp2
              go_quiet (fail)
              go_wp2
              go_round
              case rel => exact ⟨k + 1, by go_num, by omega, HH.out, _, rfl⟩
              case measure => simp [intOf]; omega
        · obtain rfl : k = m := by omega
          have hf : givenB L gs = true := by
            unfold givenB
            rw [H1.out, HN.out, HG.out]
            simp only [decide_true, Bool.and_self, Bool.true_and, decide_eq_true_eq]
            exact hA.out
          have HF := Lib.hid hf
          clear hf
          go_wp2
          go_ret
          exact ⟨ret_b HF.out.symm, below_drewN hB.out _⟩
    · have hf : givenB L gs = false := by
        unfold givenB
        have : decide (gs.length = L.length) = false := by
          simp only [decide_eq_false_iff_not]
          rw [HN.out, HG.out]; exact hmn
        rw [this]; simp
      have HF := Lib.hid hf
      have t1 : ((m : Int) == n) = false := by simpa using by omega
      have t2 : ((m : Int) != n) = true := by simpa using by omega
      clear h1 hf hmn
      go_enter Try.func80, Try.ntmps80
      go_wp2_with (go_at_call 54; refine (HM.out _ HR.out).mono ?_; rintro e w1 ⟨rfl, hb1⟩)
      go_ret
      exact ⟨ret_b HF.out.symm, hb1⟩

set_option maxHeartbeats 1600000 in
theorem c_rwhole_bad (a b : Option Addr) (n c m d : Nat) (L : List (ByteArray × Int)) (gs : List Int) (spent : Int) (w : World) (hn : L.length = n) (hm : n ≤ 4096) (hr : Rd w a (cellsI L)) (hs : ∀ p ∈ L, p.1.size ≤ 9223372036854775807) (hg : gs.length = m) (hgm : m ≤ 9223372036854775807) (hb : Rd w b (vals .i64 gs)) (he : wholeE L gs spent ≠ 0) :
    Calls Try.prog 46 #[.slice a n c, .slice b m d, .int .i64 spent] w fun e w' => e = .returned (.tuple #[.slice none 0 0, .slice none 0 0, .int .i64 (wholeE L gs spent)]) ∧ Below w.heap.size w w' := by
  have HR := Lib.hid hr
  have HN := Lib.hid hn
  have HG := Lib.hid hg
  have HB := Lib.hid hb
  have HS := Lib.hid hs
  have HGv := Lib.hid (c_rright a b n c m d L gs w hn hm hr hs hg hgm hb)
  clear hr hn hg hb hs
  cases h1 : givenB L gs
  · have hE : wholeE L gs spent = 1 := by unfold wholeE; rw [if_pos (.inl h1)]
    rw [hE]
    rw [h1] at HGv
    clear h1 hE he
    go_enter Try.func46, Try.ntmps46
    go_wp2_with fail
    refine HGv.out.mono ?_
    rintro e w1 ⟨rfl, hb1⟩
    go_wp2_with fail
    go_ret3
    exact ⟨rfl, hb1⟩
  · rw [h1] at HGv
    cases h2 : amtB spent
    · have hE : wholeE L gs spent = 1 := by unfold wholeE; rw [if_pos (.inr h2)]
      rw [hE]
      have ha : spent < 0 ∨ (0 ≤ spent ∧ 1099511627776 < spent) := by
        unfold amtB at h2
        simp at h2
        omega
      clear h1 h2 hE he
      rcases ha with ha | ⟨ha, ha2⟩ <;> (
        go_enter Try.func46, Try.ntmps46
        go_wp2_with fail
        refine HGv.out.mono ?_
        rintro e w1 ⟨rfl, hb1⟩
        go_wp2_with fail
        go_ret3
        exact ⟨rfl, hb1⟩)
    · have hE : wholeE L gs spent = adjE (sumL gs + spent) L := by unfold wholeE; rw [if_neg (by rw [h1, h2]; simp)]
      rw [hE] at he ⊢
      obtain ⟨f1, f2, f3⟩ := given_facts h1
      have hs0 := sumL_nonneg gs fun x hx => (f3 x hx).1
      have hs1 := sumL_le gs 1099511627776 fun x hx => (f3 x hx).2
      rw [HG.out] at f2 hs1
      rw [HN.out] at f2
      subst f2
      have HF3 := Lib.hid f3
      have HE := Lib.hid he
      have hEb := adjE_bd (sumL gs + spent) L
      have hamt : 0 ≤ spent ∧ spent ≤ 1099511627776 := by unfold amtB at h2; simpa using h2
      obtain ⟨a0, a1⟩ := hamt
      have HSum := Lib.hid (fun w hr => c_rsum b m d gs w HG.out hm hr f3)
      have HAdj := Lib.hid (fun w hr => c_radjust_bad (sumL gs + spent) a m c L w HN.out hm hr HS.out HE.out)
      clear h1 h2 f1 f3 hE
      generalize sumL gs = sg at *
      have e1 : IntKind.i64.wrap (sg + spent) = sg + spent := IntWalk.i64_in _ (by omega)
      have t1 : (adjE (sg + spent) L != 0) = true := by simpa using he
      clear he
      generalize adjE (sg + spent) L = E at *
      go_enter Try.func46, Try.ntmps46
      go_wp2_with fail
      refine HGv.out.mono ?_
      rintro e w1 ⟨rfl, hb1⟩
      go_wp2_with fail
      refine (HSum.out _ (HB.out.below hb1)).mono ?_
      rintro e w2 ⟨rfl, rfl⟩
      go_wp2_with fail
      refine (HAdj.out _ (HR.out.below hb1)).mono ?_
      rintro e w2 ⟨rfl, hb2⟩
      go_wp2_with fail
      go_ret3
      exact ⟨rfl, hb1.trans (hb2.mono hb1.size)⟩

end Go.Proofs.Ytbcmaaoddnaoiaa
