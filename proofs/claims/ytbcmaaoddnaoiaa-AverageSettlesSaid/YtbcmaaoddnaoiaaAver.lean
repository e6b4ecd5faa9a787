/-
  average.given, Adjust, Whole: their walks.
-/
import Derived.Test.YtbcmaaoddnaoiaaAMay
import Derived.Test.YtbcmaaoddnaoiaaSplit
import Derived.Test.YtbcmaaoddnaoiaaSplitLaw
namespace Go.Proofs.Ytbcmaaoddnaoiaa
set_option linter.unusedVariables false
set_option linter.unusedSimpArgs false
open Go.RowKit

section
variable {w w' : World} {B n c : Nat} {e : TypeId} {A : Option Addr} {xs : List Value}
theorem Own.mono (h : Own w B e A n c xs) {B' : Nat} (hB : B' ≤ B) : Own w B' e A n c xs := by
  refine ⟨h.1, ?_⟩
  rcases h.2 with hn | ⟨g, cap, cur, hv, hb', rest⟩
  · exact .inl hn
  · exact .inr ⟨g, cap, cur, hv, by omega, rest⟩
theorem Own.at (h : Own w B e A n c xs) (i : Nat) (hi : i < n) : ∃ g, A = some ⟨g, 0, none⟩ ∧ B ≤ g ∧ g < w.heap.size ∧ w.frozen? ⟨g, i, none⟩ = false ∧ w.cell? ⟨g, i, none⟩ = xs[i]? ∧ (∀ u, Own (w.setCell ⟨g, i, none⟩ u) B e A n c (xs.set i u)) := by
  rcases h.form with ⟨_, h0, _⟩ | ⟨g, rfl, hb, hl, cur, hg, hn, hs, ht⟩
  · omega
  · refine ⟨g, rfl, hb, hl, by simp [World.frozen?, hg], ?_, fun u => ?_⟩
    · rw [cell_of_row w g i cur e (0, 0) hg, ← ht, List.getElem?_take, if_pos hi]
      simp
    · have h2 := h.2
      have hcm : c ≤ maxLen := by
        rcases h2 with ⟨h3, _⟩ | ⟨g', cap, cur', hv, _, _, _, hm, _⟩
        · cases h3
        · injection hv with _ _ hc
          subst hc
          exact hm
      refine ⟨by have := h.1; simpa using this, .inr ⟨g, c, cur.setIfInBounds i u, rfl, hb, ?_, hn, hcm, by simpa using hs, ?_⟩⟩
      · simp [World.setCell, Array.getElem?_modify, hg]
      · rw [Nat.mul_one, ← ht]
        simp [List.take_set]
end

/-- Was so much given up? -/
def givenB (L : List (ByteArray × Int)) (gs : List Int) : Bool := mayB L && decide (gs.length = L.length) && decide (∀ i, i < gs.length → 0 ≤ gs.getD i 0 ∧ gs.getD i 0 ≤ (valsI L).getD i 0)
theorem given_bad {L : List (ByteArray × Int)} {gs : List Int} {k : Nat} (hk : k < gs.length) (h : ¬ (0 ≤ gs.getD k 0 ∧ gs.getD k 0 ≤ (valsI L).getD k 0)) : givenB L gs = false := by
  unfold givenB
  have : decide (∀ i, i < gs.length → 0 ≤ gs.getD i 0 ∧ gs.getD i 0 ≤ (valsI L).getD i 0) = false := by
    simp only [decide_eq_false_iff_not]
    intro h2
    exact h (h2 k hk)
  rw [this]; simp

set_option maxHeartbeats 1600000 in
theorem c_given (a b : Option Addr) (n c m d : Nat) (L : List (ByteArray × Int)) (gs : List Int) (w : World) (hn : L.length = n) (hm : n ≤ 4096) (hr : Rd w a (cellsI L)) (hs : ∀ p ∈ L, p.1.size ≤ 9223372036854775807) (hg : gs.length = m) (hgm : m ≤ 9223372036854775807) (hb : Rd w b (vals .i64 gs)) :
    Calls Try.prog 47 #[.slice a n c, .slice b m d] w fun e w' => e = .returned (.bool (givenB L gs)) ∧ Below w.heap.size w w' := by
  have HM := Lib.hid (fun w hr => c_amay a n c L w hn (by omega) hr hs)
  have HR := Lib.hid hr
  have HN := Lib.hid hn
  have HG := Lib.hid hg
  have HB := Lib.hid hb
  clear hr hn hs hg hb
  cases h1 : mayB L
  · have hf : givenB L gs = false := by unfold givenB; rw [h1]; simp
    have HF := Lib.hid hf
    rw [h1] at HM
    clear h1 hf
    go_enter Try.func47, Try.ntmps47
    go_wp2_with (go_at_call 52; refine (HM.out _ HR.out).mono ?_; rintro e w1 ⟨rfl, hb1⟩)
    go_ret
    exact ⟨ret_b HF.out.symm, hb1⟩
  · rw [h1] at HM
    by_cases hmn : m = n
    · subst hmn
      have H1 := Lib.hid h1
      clear h1
      go_enter Try.func47, Try.ntmps47
      go_wp2_with (go_at_call 52; refine (HM.out _ HR.out).mono ?_; rintro e w1 ⟨rfl, hb1⟩; have hB := Lib.hid hb1; clear hb1)
      go_loop [19] (fun x => ∃ k : Nat, x = .int .i64 k ∧ k ≤ m ∧ Hid (∀ i, i < k → 0 ≤ gs.getD i 0 ∧ gs.getD i 0 ≤ (valsI L).getD i 0)) (fun x => m - (intOf x).toNat)
      case atStart => exact ⟨0, rfl, by omega, by intro i hi; omega⟩
      case round =>
        obtain ⟨k, rfl, hk, hA⟩ := hrel
        by_cases hlt : k < m
        · have hkL : k < L.length := by rw [HN.out]; exact hlt
          have hkg : k < gs.length := by rw [HG.out]; exact hlt
          obtain ⟨b2, o2, rfl, hb2, hd1, hd2⟩ := intr_at (HR.out.below hB.out) k hkL
          obtain ⟨b1, o1, rfl, hb1, hall, hc⟩ := (HB.out.below hB.out).at k (by simpa using hkg)
          clear hall
          rw [vals_get .i64 gs k hkg] at hc
          have e1 : gs.getD k 0 = gs[k] := by simp [hkg]
          have e2 : (valsI L).getD k 0 = L[k].2 := by simp [valsI, hkL]
          have hbad := Lib.hid (fun h => given_bad (L := L) hkg h)
          have hgood : (0 ≤ gs[k] ∧ gs[k] ≤ L[k].2) → ∀ i, i < k + 1 → 0 ≤ gs.getD i 0 ∧ gs.getD i 0 ≤ (valsI L).getD i 0 := by
            intro h i hi
            by_cases e : i = k
            · subst e; rw [e1, e2]; exact h
            · exact hA.out i (by omega)
          rw [e1, e2] at hbad
          have HGood := Lib.hid hgood
          clear hgood e1 e2
          generalize L[k].1 = s at *
          generalize L[k].2 = v at *
          generalize gs[k] = g at *
          by_cases hg0 : g < 0
          · have HF := Lib.hid (hbad.out (by omega))
            go_wp2
            go_ret
            exact ⟨ret_b HF.out.symm, hB.out⟩
          · by_cases hg1 : v < g
            · have HF := Lib.hid (hbad.out (by omega))
              go_wp2
              go_ret
              exact ⟨ret_b HF.out.symm, hB.out⟩
            · have HH := Lib.hid (HGood.out (by omega))
              go_wp2
              go_round
              case rel => exact ⟨k + 1, by go_num, by omega, HH.out⟩
              case measure => simp [intOf]; omega
        · obtain rfl : k = m := by omega
          have hf : givenB L gs = true := by
            unfold givenB
            rw [H1.out, HN.out, HG.out]
            simp only [decide_true, Bool.and_self, Bool.true_and, decide_eq_true_eq]
            exact hA.out
          have HF := Lib.hid hf
          clear hf
          go_wp2
          go_ret
          exact ⟨ret_b HF.out.symm, hB.out⟩
    · have hf : givenB L gs = false := by
        unfold givenB
        have : decide (gs.length = L.length) = false := by
          simp only [decide_eq_false_iff_not]
          rw [HN.out, HG.out]; exact hmn
        rw [this]; simp
      have HF := Lib.hid hf
      have t1 : ((m : Int) == n) = false := by simpa using by omega
      have t2 : ((m : Int) != n) = true := by simpa using by omega
      clear h1 hf hmn
      go_enter Try.func47, Try.ntmps47
      go_wp2_with (go_at_call 52; refine (HM.out _ HR.out).mono ?_; rintro e w1 ⟨rfl, hb1⟩)
      go_ret
      exact ⟨ret_b HF.out.symm, hb1⟩

/-- What is wrong with a loss. -/
def adjE (lost : Int) (L : List (ByteArray × Int)) : Int := if mayB L = false ∨ lost < 0 then 1 else if sumL (valsI L) < lost then 3 else errS lost (valsI L)
theorem mayGo_amt : ∀ (L : List (ByteArray × Int)) (S : List (List UInt8)), mayGo S L = true → ∀ p ∈ L, 0 ≤ p.2 ∧ p.2 ≤ 1099511627776
  | [], _, _ => by simp
  | p :: r, S, h => by
    simp only [mayGo, Bool.and_eq_true] at h
    intro q hq
    rcases List.mem_cons.1 hq with rfl | hq
    · have := h.1.2
      unfold amtB at this
      simpa using this
    · exact mayGo_amt r _ h.2 q hq
theorem mayB_amt {L : List (ByteArray × Int)} (h : mayB L = true) : ∀ x ∈ valsI L, 0 ≤ x ∧ x ≤ 1099511627776 := by
  unfold mayB at h
  simp only [Bool.and_eq_true] at h
  intro x hx
  simp only [valsI, List.mem_map] at hx
  obtain ⟨p, hp, rfl⟩ := hx
  exact mayGo_amt L _ h.1 p hp
theorem adjE_bd (lost : Int) (L : List (ByteArray × Int)) : 0 ≤ adjE lost L ∧ adjE lost L ≤ 4 := by
  unfold adjE
  have : 0 ≤ errS lost (valsI L) ∧ errS lost (valsI L) ≤ 4 := by
    unfold errS errV
    (repeat' split) <;> omega
  (repeat' split) <;> omega

set_option maxHeartbeats 1600000 in
theorem c_adjust_bad (lost : Int) (a : Option Addr) (n c : Nat) (L : List (ByteArray × Int)) (w : World) (hn : L.length = n) (hm : n ≤ 4096) (hr : Rd w a (cellsI L)) (hs : ∀ p ∈ L, p.1.size ≤ 9223372036854775807) (he : adjE lost L ≠ 0) :
    Calls Try.prog 24 #[.int .i64 lost, .slice a n c] w fun e w' => e = .returned (.tuple #[.slice none 0 0, .int .i64 (adjE lost L)]) ∧ Below w.heap.size w w' := by
  have HR := Lib.hid hr
  have HN := Lib.hid hn
  have HM := Lib.hid (fun w hr => c_amay a n c L w hn (by omega) hr hs)
  have HV := Lib.hid (c_values a n c L w hn hm hr)
  have HE := Lib.hid he
  clear hr hn hs he
  cases h1 : mayB L
  · have hE : adjE lost L = 1 := by unfold adjE; rw [if_pos (.inl h1)]
    rw [hE]
    rw [h1] at HM
    clear h1 hE
    go_enter Try.func24, Try.ntmps24
    go_wp2_with fail
    refine HV.out.mono ?_
    rintro e w1 ⟨A', c', rfl, hO, hb1⟩
    go_wp2_with fail
    refine (HM.out _ (HR.out.below hb1)).mono ?_
    rintro e w2 ⟨rfl, hb2⟩
    go_wp2_with fail
    go_ret2
    exact ⟨rfl, hb1.trans (hb2.mono hb1.size)⟩
  · rw [h1] at HM
    by_cases hl : lost < 0
    · have hE : adjE lost L = 1 := by unfold adjE; rw [if_pos (.inr hl)]
      rw [hE]
      clear h1 hE
      go_enter Try.func24, Try.ntmps24
      go_wp2_with fail
      refine HV.out.mono ?_
      rintro e w1 ⟨A', c', rfl, hO, hb1⟩
      go_wp2_with fail
      refine (HM.out _ (HR.out.below hb1)).mono ?_
      rintro e w2 ⟨rfl, hb2⟩
      go_wp2_with fail
      go_ret2
      exact ⟨rfl, hb1.trans (hb2.mono hb1.size)⟩
    · have HZ := Lib.hid (mayB_amt h1)
      by_cases hx : sumL (valsI L) < lost
      · have hE : adjE lost L = 3 := by unfold adjE; rw [if_neg (by rw [h1]; simp; omega), if_pos hx]
        rw [hE]
        clear h1 hE
        go_enter Try.func24, Try.ntmps24
        go_wp2_with fail
        refine HV.out.mono ?_
        rintro e w1 ⟨A', c', rfl, hO, hb1⟩
        have HO := Lib.hid hO
        clear hO
        go_wp2_with fail
        refine (HM.out _ (HR.out.below hb1)).mono ?_
        rintro e w2 ⟨rfl, hb2⟩
        go_wp2_with fail
        refine (c_asum A' n c' (valsI L) w2 (by rw [valsI_length, HN.out]) hm (HO.out.rd.below hb2) HZ.out).mono ?_
        rintro e w3 ⟨rfl, rfl⟩
        go_wp2_with fail
        go_ret2
        exact ⟨rfl, hb1.trans (hb2.mono hb1.size)⟩
      · have hE : adjE lost L = errS lost (valsI L) := by unfold adjE; rw [if_neg (by rw [h1]; simp; omega), if_neg hx]
        rw [hE] at HE ⊢
        clear h1 hE
        go_enter Try.func24, Try.ntmps24
        go_wp2_with fail
        refine HV.out.mono ?_
        rintro e w1 ⟨A', c', rfl, hO, hb1⟩
        have HO := Lib.hid hO
        clear hO
        go_wp2_with fail
        refine (HM.out _ (HR.out.below hb1)).mono ?_
        rintro e w2 ⟨rfl, hb2⟩
        go_wp2_with fail
        refine (c_asum A' n c' (valsI L) w2 (by rw [valsI_length, HN.out]) hm (HO.out.rd.below hb2) HZ.out).mono ?_
        rintro e w3 ⟨rfl, rfl⟩
        go_wp2_with fail
        refine (c_split_bad lost A' n c' (valsI L) w2 (by rw [valsI_length, HN.out]) (by omega) (HO.out.rd.below hb2) HE.out).mono ?_
        rintro e w3 ⟨rfl, rfl⟩
        go_wp2_with fail
        go_ret2
        exact ⟨rfl, hb1.trans (hb2.mono hb1.size)⟩

theorem adjE_zero {lost : Int} {L : List (ByteArray × Int)} (h : adjE lost L = 0) : mayB L = true ∧ 0 ≤ lost ∧ lost ≤ sumL (valsI L) ∧ errS lost (valsI L) = 0 := by
  unfold adjE at h
  split at h
  · cases h
  · rename_i h1
    split at h
    · cases h
    · rename_i h2
      simp only [not_or, Bool.not_eq_false] at h1
      exact ⟨h1.1, by omega, by omega, h⟩

set_option maxHeartbeats 1600000 in
theorem c_adjust (lost : Int) (a : Option Addr) (n c : Nat) (L : List (ByteArray × Int)) (w : World) (hn : L.length = n) (hm : n ≤ 4096) (hr : Rd w a (cellsI L)) (hs : ∀ p ∈ L, p.1.size ≤ 9223372036854775807) (he : adjE lost L = 0) :
    Calls Try.prog 24 #[.int .i64 lost, .slice a n c] w fun e w' => ∃ b t, e = .returned (.tuple #[.slice (some ⟨b, 0, none⟩) n n, .int .i64 0]) ∧ w.heap.size ≤ b ∧ Below w.heap.size w w' ∧ Blk w' b t (rowI .i64 (partsOf lost (valsI L))) := by
  obtain ⟨h1, h2, h3, h4⟩ := adjE_zero he
  have HR := Lib.hid hr
  have HN := Lib.hid hn
  have hM := fun w hr => c_amay a n c L w hn (by omega) hr hs
  rw [h1] at hM
  have HM := Lib.hid hM
  have HV := Lib.hid (c_values a n c L w hn hm hr)
  have HE := Lib.hid h4
  have HZ := Lib.hid (mayB_amt h1)
  clear hr hn hs he hM h1 h4
  go_enter Try.func24, Try.ntmps24
  go_wp2_with fail
  refine HV.out.mono ?_
  rintro e w1 ⟨A', c', rfl, hO, hb1⟩
  have HO := Lib.hid hO
  clear hO
  go_wp2_with fail
  refine (HM.out _ (HR.out.below hb1)).mono ?_
  rintro e w2 ⟨rfl, hb2⟩
  have hB := Lib.hid (hb1.trans (hb2.mono hb1.size))
  go_wp2_with fail
  refine (c_asum A' n c' (valsI L) w2 (by rw [valsI_length, HN.out]) hm (HO.out.rd.below hb2) HZ.out).mono ?_
  rintro e w3 ⟨rfl, rfl⟩
  have hO2 := Lib.hid (HO.out.rd.below hb2)
  clear hb1 hb2
  go_wp2_with fail
  refine (c_split lost A' n c' (valsI L) w2 (by rw [valsI_length, HN.out]) hO2.out HE.out).mono ?_
  rintro e w3 ⟨b, t, rfl, hl, hb3, hP⟩
  have hl2 : Hid (w.heap.size ≤ b) := Lib.hid (by have := hB.out.size; omega)
  have hB3 := Lib.hid (hB.out.trans (hb3.mono hB.out.size))
  have hP3 := Lib.hid hP
  clear hl hb3 hP
  go_wp2_with fail
  go_ret2
  exact ⟨b, t, rfl, hl2.out, hB3.out, hP3.out⟩

end Go.Proofs.Ytbcmaaoddnaoiaa
