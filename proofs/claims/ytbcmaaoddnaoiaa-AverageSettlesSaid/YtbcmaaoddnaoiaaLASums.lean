/-
  The law AverageSums: its walk.
-/
import Derived.Test.YtbcmaaoddnaoiaaAwake43
import Derived.Test.YtbcmaaoddnaoiaaRTimes
import Derived.Test.YtbcmaaoddnaoiaaRSplitNum
import Derived.BigQuiet
namespace Go.Proofs.Ytbcmaaoddnaoiaa
set_option linter.unusedVariables false
set_option linter.unusedSimpArgs false
open Go.RowKit

theorem sumL_take_getD (l : List Int) (k : Nat) (h : k < l.length) : sumL (l.take (k + 1)) = sumL (l.take k) + l.getD k 0 := by
  rw [sumL_take_succ' l k h]
  simp [h]
theorem vals_getD (l : List Int) (k : Nat) (h : k < l.length) (h2 : k < (vals .i64 l).length) : (vals .i64 l)[k] = .int .i64 (l.getD k 0) := by
  simp [vals, h]
theorem valsI_getD (L : List (ByteArray × Int)) (k : Nat) (h : k < L.length) : (valsI L).getD k 0 = L[k].2 := by
  simp [valsI, h]

theorem fewG_len {L : List (ByteArray × Int)} {m : Nat} (h : fewG L m = true) : L.length ≤ 31 ∧ m ≤ 60 := by
  unfold fewG fewI at h
  simp only [Bool.and_eq_true, decide_eq_true_eq] at h
  refine ⟨?_, h.2⟩
  rcases Nat.lt_or_ge 31 L.length with h2 | h2
  · have := (h.1 31 h2).1
    omega
  · exact h2

set_option maxHeartbeats 1600000 in
theorem l_asums_few (a b : Option Addr) (n c m d : Nat) (L : List (ByteArray × Int)) (gs : List Int) (spent : Int) (w : World) (hn : L.length = n) (hm : n ≤ 9223372036854775807) (hr : Rd w a (cellsI L)) (hs : ∀ p ∈ L, p.1.size ≤ 9223372036854775807) (hgm : m ≤ 9223372036854775807) (hf : fewG L m = false) :
    Calls Try.prog 4 #[.slice a n c, .slice b m d, .int .i64 spent] w fun e w' => e = .returned (.bool true) ∧ Below w.heap.size w w' := by
  have HF := Lib.hid (fun w hr => c_few a b n c m d L w hn hm hgm hr hs)
  rw [hf] at HF
  have HR := Lib.hid hr
  clear hn hr hs hf
  go_enter Try.func4, Try.ntmps4
  go_wp2_with fail
  refine (c_awake43 _).mono ?_
  rintro e w1 ⟨rfl, hb1⟩
  go_wp2_with fail
  refine (HF.out _ (HR.out.below hb1)).mono ?_
  rintro e w2 ⟨rfl, hb2⟩
  have HB := Lib.hid (hb1.trans (hb2.mono hb1.size))
  clear hb1 hb2
  go_wp2_with fail
  go_ret
  exact ⟨rfl, HB.out⟩

set_option maxHeartbeats 1600000 in
theorem l_asums_bad (a b : Option Addr) (n c m d : Nat) (L : List (ByteArray × Int)) (gs : List Int) (spent : Int) (w : World) (hn : L.length = n) (hm : n ≤ 4096) (hr : Rd w a (cellsI L)) (hs : ∀ p ∈ L, p.1.size ≤ 9223372036854775807) (hg : gs.length = m) (hgm : m ≤ 9223372036854775807) (hb : Rd w b (vals .i64 gs)) (hf : fewG L m = true) (he : wholeE L gs spent ≠ 0) :
    Calls Try.prog 4 #[.slice a n c, .slice b m d, .int .i64 spent] w fun e w' => e = .returned (.bool true) ∧ Below w.heap.size w w' := by
  have HF := Lib.hid (fun w hr => c_few a b n c m d L w hn (by omega) hgm hr hs)
  rw [hf] at HF
  have HW := Lib.hid (fun w hr hb => c_whole_bad a b n c m d L gs spent w hn hm hr hs hg hgm hb he)
  have t1 : (wholeE L gs spent != 0) = true := by simpa using he
  have HR := Lib.hid hr
  have HB := Lib.hid hb
  clear hn hr hs hf hg hb he
  generalize wholeE L gs spent = E at *
  go_enter Try.func4, Try.ntmps4
  go_wp2_with fail
  refine (c_awake43 _).mono ?_
  rintro e w1 ⟨rfl, hb1⟩
  go_wp2_with fail
  refine (HF.out _ (HR.out.below hb1)).mono ?_
  rintro e w2 ⟨rfl, hb2⟩
  have HB2 := Lib.hid (hb1.trans (hb2.mono hb1.size))
  clear hb1 hb2
  go_wp2_with fail
  refine (HW.out _ (HR.out.below HB2.out) (HB.out.below HB2.out)).mono ?_
  rintro e w3 ⟨rfl, hb3⟩
  have HB3 := Lib.hid (HB2.out.trans (hb3.mono HB2.out.size))
  clear hb3
  go_wp2_with fail
  go_ret
  exact ⟨rfl, HB3.out⟩

set_option maxRecDepth 100000 in
set_option maxHeartbeats 3200000 in
theorem l_asums_good (a b : Option Addr) (n c m d : Nat) (L : List (ByteArray × Int)) (gs : List Int) (spent : Int) (w : World) (hn : L.length = n) (hm : n ≤ 4096) (hr : Rd w a (cellsI L)) (hs : ∀ p ∈ L, p.1.size ≤ 9223372036854775807) (hg : gs.length = m) (hgm : m ≤ 9223372036854775807) (hb : Rd w b (vals .i64 gs)) (hf : fewG L m = true) (he : wholeE L gs spent = 0) :
    Calls Try.prog 4 #[.slice a n c, .slice b m d, .int .i64 spent] w fun e w' => e = .returned (.bool true) ∧ Below w.heap.size w w' := by
  have F := whole_facts he
  have hmn : m = n := by rw [← hg, ← hn]; exact F.glen
  subst hmn
  have HF := Lib.hid (fun w hr => c_few a b m c m d L w hn (by omega) hgm hr hs)
  rw [hf] at HF
  obtain ⟨f1, f2, f3, f4⟩ := gets_facts F
  have HW := fun w hr hb => c_whole a b m c m d L gs spent w hn hm hr hs hg hgm hb he
  unfold WholeOk at HW
  have HW := Lib.hid HW
  have hGs : ∀ k, k < m → (subs gs (partsOf (sumL gs + spent) (valsI L)) m).getD k 0 = gs.getD k 0 - (partsOf (sumL gs + spent) (valsI L)).getD k 0 := fun k hk => by
    rw [subs_get _ _ _ _ (by rw [hg]; exact hk), if_pos hk]
  have hGe : getsOf L gs spent = subs gs (partsOf (sumL gs + spent) (valsI L)) m := by unfold getsOf; rw [hn]
  rw [hGe] at f1 f2
  have hpl : (partsOf (sumL gs + spent) (valsI L)).length = m := by rw [partsOf_length, valsI_length, hn]
  have hnear : ∀ k, k < m → 0 < sumL (valsI L) → ((partsOf (sumL gs + spent) (valsI L)).getD k 0 = (sumL gs + spent) * (valsI L).getD k 0 / sumL (valsI L) ∨ ((partsOf (sumL gs + spent) (valsI L)).getD k 0 = (sumL gs + spent) * (valsI L).getD k 0 / sumL (valsI L) + 1 ∧ (sumL gs + spent) * (valsI L).getD k 0 % sumL (valsI L) ≠ 0)) := fun k hk h0 => by
    have hk2 : k < (valsI L).length := by rw [valsI_length, hn]; exact hk
    have := parts_near (sumL gs + spent) (valsI L) h0 k hk2
    rw [show (valsI L).getD k 0 = (valsI L)[k] by simp [List.getD_eq_getElem?_getD, List.getElem?_eq_getElem hk2]]
    exact this
  have hvb : ∀ k, 0 ≤ (valsI L).getD k 0 ∧ (valsI L).getD k 0 ≤ 1099511627776 ∧ (valsI L).getD k 0 ≤ sumL (valsI L) := fun k => by
    rw [List.getD_eq_getElem?_getD]
    have h0 := sumL_nonneg (valsI L) fun x hx => (F.vb x hx).1
    by_cases hk : k < (valsI L).length
    · rw [List.getElem?_eq_getElem hk]
      exact ⟨(F.vb _ (List.getElem_mem hk)).1, (F.vb _ (List.getElem_mem hk)).2, mem_le_sum (valsI L) (fun x hx => (F.vb x hx).1) _ (List.getElem_mem hk)⟩
    · rw [List.getElem?_eq_none (by omega)]; exact ⟨by simp, by simp, by simpa using h0⟩
  have HR := Lib.hid hr
  have HB := Lib.hid hb
  have HN := Lib.hid hn
  have HG := Lib.hid hg
  have HFc := Lib.hid F
  have HGs := Lib.hid hGs
  have HPl := Lib.hid hpl
  have HNear := Lib.hid hnear
  have HVb := Lib.hid hvb
  have HGl := Lib.hid f1
  have HGz := Lib.hid f2
  have HPb := Lib.hid F.pb
  have HPz := Lib.hid F.psum
  have hsp := F.sp
  have hsm := F.sum
  obtain ⟨s0, s1⟩ := hsp
  have hvl : (valsI L).length = m := by rw [valsI_length, hn]
  have HVl := Lib.hid hvl
  have hS2 := sumL_le (valsI L) 1099511627776 fun x hx => (F.vb x hx).2
  rw [hvl] at hS2
  clear hn hr hs hf hg hb he F f1 f2 f3 f4 hGs hpl hnear hvb hGe hvl
  generalize hps : partsOf (sumL gs + spent) (valsI L) = ps at *
  generalize hGG : subs gs ps m = G at *
  generalize hTT : sumL gs + spent = T at *
  generalize hVV : sumL (valsI L) = V at *
  have HTT := Lib.hid hTT
  have HVV := Lib.hid hVV
  clear hps hGG hTT hVV
  go_enter Try.func4, Try.ntmps4
  go_wp2_with fail
  refine (c_awake43 _).mono ?_
  rintro e w1 ⟨rfl, hb1⟩
  go_wp2_with fail
  refine (HF.out _ (HR.out.below hb1)).mono ?_
  rintro e w2 ⟨rfl, hb2⟩
  have HB2 := Lib.hid (hb1.trans (hb2.mono hb1.size))
  clear hb1 hb2
  go_wp2_with fail
  refine (HW.out _ (HR.out.below HB2.out) (HB.out.below HB2.out)).mono ?_
  rintro e w3 ⟨pb, pt, A3, c3, rfl, hP3, hO3, hb3⟩
  have HB3 := Lib.hid (HB2.out.trans (hb3.mono HB2.out.size))
  have HP3 := Lib.hid hP3
  have HO3 := Lib.hid hO3.rd
  have HR3 := Lib.hid (HR.out.below HB3.out)
  have HD3 := Lib.hid (HB.out.below HB3.out)
  clear hb3 HF HW HB2 hP3 hO3
  go_wp2_with fail
  go_loopw [10, 11, 12, 13, 14] (fun x1 x2 x3 x4 x5 wr => ∃ (k : Nat) (u1 u2 u3 u4 : Int), x1 = .int .i64 u1 ∧ x2 = .int .i64 u2 ∧ x3 = .int .i64 u3 ∧ x4 = .int .i64 u4 ∧ x5 = .int .i64 k ∧ k ≤ m ∧ (0 ≤ u1 ∧ u1 ≤ 1099511627777 * (k + 1)) ∧ (0 ≤ u2 ∧ u2 ≤ 1099511627777 * k) ∧ (-1099511627777 * k ≤ u3 ∧ u3 ≤ 1099511627777 * (k + 1)) ∧ (0 ≤ u4 ∧ u4 ≤ 1099511627777 * k) ∧ Hid (u1 = spent + sumL (gs.take k) ∧ u2 = sumL (ps.take k) ∧ u3 = spent + sumL (G.take k) ∧ u4 = sumL ((valsI L).take k)) ∧ ∃ q, wr = w3.drewN q) (fun _ _ _ _ x _ => m - (intOf x).toNat)
  case atStart => exact ⟨0, spent, 0, spent, 0, rfl, rfl, rfl, rfl, rfl, by omega, by omega, by omega, by omega, by omega, ⟨by simp [sumL], by simp [sumL], by simp [sumL], by simp [sumL]⟩, 0, rfl⟩
  case round =>
    obtain ⟨k, u1, u2, u3, u4, rfl, rfl, rfl, rfl, rfl, hk, ⟨a1, b1⟩, ⟨a2, b2⟩, ⟨a3, b3⟩, ⟨a4, b4⟩, hS, q, rfl⟩ := hrel
    by_cases hlt : k < m
    · have hkL : k < L.length := by rw [HN.out]; exact hlt
      obtain ⟨b5, o5, rfl, hb5, c5, c6⟩ := intr_at HR3.out k hkL
      rw [← valsI_getD L k hkL] at c6
      have hkg : k < gs.length := by rw [HG.out]; exact hlt
      have hkG : k < G.length := by rw [HGl.out, HN.out]; exact hlt
      obtain ⟨b6, o6, rfl, hb6, hall6, d5⟩ := HD3.out.at k (by simpa using hkg)
      clear hall6
      obtain ⟨b7, o7, rfl, hb7, hall7, d7⟩ := HO3.out.at k (by simpa using hkG)
      clear hall7
      rw [vals_getD gs k hkg] at d5
      rw [vals_getD G k hkG, HGs.out k hlt] at d7
      have hkp : k < ps.length := by rw [HPl.out]; exact hlt
      have d8 := HP3.out.cell k (rowI_get .i64 ps k hkp)
      have t1 := sumL_take_getD gs k hkg
      have t2 := sumL_take_getD ps k hkp
      have t3 := sumL_take_getD G k hkG
      rw [HGs.out k hlt] at t3
      have t4 := sumL_take_getD (valsI L) k (by rw [HVl.out]; exact hlt)
      have hg1 := HFc.out.gb k
      have hp1 := HPb.out k
      have hv1 := HVb.out k
      obtain ⟨g0, g1⟩ := hg1
      obtain ⟨p0, p1⟩ := hp1
      obtain ⟨v0, v1, v2⟩ := hv1
      obtain ⟨e1, e2, e3, e4⟩ := hS.out
      have HE := Lib.hid (show u1 + gs.getD k 0 = spent + sumL (gs.take (k + 1)) ∧ u2 + ps.getD k 0 = sumL (ps.take (k + 1)) ∧ u3 + (gs.getD k 0 - ps.getD k 0) = spent + sumL (G.take (k + 1)) ∧ u4 + (valsI L).getD k 0 = sumL ((valsI L).take (k + 1)) from ⟨by omega, by omega, by omega, by omega⟩)
      clear e1 e2 e3 e4 t1 t2 t3 t4
      generalize gs.getD k 0 = g at *
      generalize ps.getD k 0 = p at *
      generalize (valsI L).getD k 0 = v at *
      generalize L[k].1 = s at *
      go_wp2
      go_quiet (fail)
      go_wp2
      go_quiet (fail)
      go_wp2
      go_round
      case rel => exact ⟨k + 1, u1 + g, u2 + p, u3 + (g - p), u4 + v, rfl, rfl, rfl, rfl, by go_num, by omega, by omega, by omega, by omega, by omega, HE.out, _, rfl⟩
      case measure => simp [intOf]; omega
    · obtain rfl : k = m := by omega
      obtain ⟨e1, e2, e3, e4⟩ := hS.out
      rw [List.take_of_length_le (by rw [HG.out]; exact Nat.le_refl _)] at e1
      rw [List.take_of_length_le (by rw [HPl.out]; exact Nat.le_refl _), HPz.out] at e2
      rw [List.take_of_length_le (by rw [HGl.out, HN.out]; exact Nat.le_refl _), HGz.out] at e3
      rw [List.take_of_length_le (by rw [HVl.out]; exact Nat.le_refl _), HVV.out] at e4
      obtain rfl : u1 = T := by have := HTT.out; omega
      obtain rfl : u2 = u1 := e2
      obtain rfl : u3 = 0 := by omega
      obtain rfl : u4 = V := e4
      clear hS e1 e3
      by_cases hV0 : 0 < u4
      · go_wp2
        go_loopw [15] (fun x wr => ∃ (j : Nat), x = .int .i64 j ∧ j ≤ k ∧ ∃ q, wr = w3.drewN q) (fun x _ => k - (intOf x).toNat)
        case atStart => exact ⟨0, rfl, by omega, q, rfl⟩
        case round =>
          obtain ⟨j, rfl, hj, q, rfl⟩ := hrel
          by_cases hlt2 : j < k
          · have hkL : j < L.length := by rw [HN.out]; exact hlt2
            obtain ⟨b5, o5, rfl, hb5, c5, c6⟩ := intr_at HR3.out j hkL
            rw [← valsI_getD L j hkL] at c6
            have hkp : j < ps.length := by rw [HPl.out]; exact hlt2
            have d8 := HP3.out.cell j (rowI_get .i64 ps j hkp)
            have hnear := HNear.out j hlt2 hV0
            obtain ⟨v0, v1, v2⟩ := HVb.out j
            obtain ⟨q0, q1⟩ := q_bd0 u2 u4 ((valsI L).getD j 0) (by omega) hV0 v0 v2
            have htm := fun w => c_rtimes u2 ((valsI L).getD j 0) u4 w (by omega) (by omega) v0 (by omega) (by omega) (by omega) (by omega)
            generalize ps.getD j 0 = p at *
            generalize u2 * (valsI L).getD j 0 / u4 = z at *
            generalize u2 * (valsI L).getD j 0 % u4 = r at *
            generalize (valsI L).getD j 0 = v at *
            generalize L[j].1 = s at *
            have HTM := Lib.hid htm
            clear htm
            rcases hnear with e | ⟨e, e2⟩
            · subst e
              go_wp2_with (go_at_call 21; refine (HTM.out _).mono ?_; rintro e w' ⟨rfl, rfl⟩)
              all_goals
                go_round
                case rel => exact ⟨j + 1, by go_num, by omega, q, rfl⟩
                case measure => simp [intOf]; omega
            · subst e
              have tr : (r == 0) = false := by simpa using e2
              have tq : (z + 1 != z) = true := by simp; omega
              clear e2
              go_wp2_with (go_at_call 21; refine (HTM.out _).mono ?_; rintro e w' ⟨rfl, rfl⟩)
              all_goals
                go_round
                case rel => exact ⟨j + 1, by go_num, by omega, q, rfl⟩
                case measure => simp [intOf]; omega
          · obtain rfl : j = k := by omega
            go_wp2
            go_ret
            exact ⟨rfl, below_drewN HB3.out _⟩
      · go_wp2
        go_loopw [15] (fun x wr => ∃ (j : Nat), x = .int .i64 j ∧ j ≤ k ∧ ∃ q, wr = w3.drewN q) (fun x _ => k - (intOf x).toNat)
        case atStart => exact ⟨0, rfl, by omega, q, rfl⟩
        case round =>
          obtain ⟨j, rfl, hj, q, rfl⟩ := hrel
          by_cases hlt2 : j < k
          · go_wp2
            go_ret
            exact ⟨rfl, below_drewN HB3.out _⟩
          · obtain rfl : j = k := by omega
            go_wp2
            go_ret
            exact ⟨rfl, below_drewN HB3.out _⟩

theorem l_asums (a : Option Addr) (n c : Nat) (L : List (ByteArray × Int)) (b : Option Addr) (m d : Nat) (gs : List Int) (spent : Int) (w : World) (hn : L.length = n) (hm : n ≤ 9223372036854775807) (hr : Rd w a (cellsI L)) (hs : ∀ p ∈ L, p.1.size ≤ 9223372036854775807 ∧ (Lit.int .i64 p.2).wf = true) (hg : gs.length = m) (hgm : m ≤ 9223372036854775807) (hb : Rd w b (vals .i64 gs)) (hgz : ∀ x ∈ gs, (Lit.int .i64 x).wf = true) (hsp : (Lit.int .i64 spent).wf = true) :
    Calls Try.prog 4 #[.slice a n c, .slice b m d, .int .i64 spent] w fun e w' => e = .returned (.bool true) ∧ Below w.heap.size w w' := by
  have hs' : ∀ p ∈ L, p.1.size ≤ 9223372036854775807 := fun p hp => (hs p hp).1
  cases hf : fewG L m
  · exact l_asums_few a b n c m d L gs spent w hn hm hr hs' hgm hf
  · have h1 := fewG_len hf
    rw [hn] at h1
    by_cases he : wholeE L gs spent = 0
    · exact l_asums_good a b n c m d L gs spent w hn (by omega) hr hs' hg hgm hb hf he
    · exact l_asums_bad a b n c m d L gs spent w hn (by omega) hr hs' hg hgm hb hf he

end Go.Proofs.Ytbcmaaoddnaoiaa
