/-
  The reference's Whole, where it has an answer: its walk.
-/
import Derived.Test.YtbcmaaoddnaoiaaRWhole
import Derived.Test.YtbcmaaoddnaoiaaAppS
import Derived.Test.YtbcmaaoddnaoiaaPays
namespace Go.Proofs.Ytbcmaaoddnaoiaa
set_option linter.unusedVariables false
set_option linter.unusedSimpArgs false
open Go.RowKit

set_option maxRecDepth 100000 in
set_option maxHeartbeats 3200000 in
theorem c_rwhole (a b : Option Addr) (n c m d : Nat) (L : List (ByteArray × Int)) (gs : List Int) (spent : Int) (w : World) (hn : L.length = n) (hm : n ≤ 4096) (hr : Rd w a (cellsI L)) (hs : ∀ p ∈ L, p.1.size ≤ 9223372036854775807) (hg : gs.length = m) (hgm : m ≤ 9223372036854775807) (hb : Rd w b (vals .i64 gs)) (he : wholeE L gs spent = 0) :
    Calls Try.prog 46 #[.slice a n c, .slice b m d, .int .i64 spent] w (WholeOk w L gs spent n) := by
  obtain ⟨h1, h2, h3⟩ := wholeE_zero he
  obtain ⟨g1, g2, g3, g4⟩ := adjE_zero h3
  obtain ⟨k1, k2, k3, k4, k5, k6⟩ := errS_zero g4
  obtain ⟨f1, f2, f3⟩ := given_facts h1
  have hs0 := sumL_nonneg gs fun x hx => (f3 x hx).1
  have hs1 := sumL_le gs 1099511627776 fun x hx => (f3 x hx).2
  have HN := Lib.hid hn
  have HG := Lib.hid hg
  rw [hg] at f2 hs1
  rw [hn] at f2
  subst f2
  rw [valsI_length, hn] at k3
  obtain ⟨i0, hi, hz0, hz1, hz2⟩ := info_parts info_i64v
  have HI := Lib.hid hi
  have HZ0 := Lib.hid hz0
  have HZ1 := Lib.hid hz1
  have HZ2 := Lib.hid hz2
  clear hi hz0 hz1 hz2
  have HR := Lib.hid hr
  have HB := Lib.hid hb
  have HGv := c_rright a b m c m d L gs w hn hm hr hs hg hgm hb
  rw [h1] at HGv
  have HGv := Lib.hid HGv
  have HSum := Lib.hid (fun w hr => c_rsum b m d gs w hg hm hr f3)
  have HAdj := Lib.hid (fun w hr => c_radjust (sumL gs + spent) a m c L w hn hm hr hs h3)
  have hamt : 0 ≤ spent ∧ spent ≤ 1099511627776 := by unfold amtB at h2; simpa using h2
  obtain ⟨a0, a1⟩ := hamt
  have hPB : ∀ i, i < m → 0 ≤ (partsOf (sumL gs + spent) (valsI L)).getD i 0 ∧ (partsOf (sumL gs + spent) (valsI L)).getD i 0 ≤ 1099511627777 := by
    intro i hi
    have hi2 : i < (valsI L).length := by rw [valsI_length, hn]; exact hi
    have p0 := parts_nonneg (sumL gs + spent) (valsI L) k1 (fun x hx => (k5 x hx).1) ((partsOf (sumL gs + spent) (valsI L)).getD i 0) (by
      have hi3 : i < (partsOf (sumL gs + spent) (valsI L)).length := by simpa using hi2
      have e : (partsOf (sumL gs + spent) (valsI L)).getD i 0 = (partsOf (sumL gs + spent) (valsI L))[i] := by rw [List.getD_eq_getElem?_getD, List.getElem?_eq_getElem hi3]; rfl
      rw [e]; exact List.getElem_mem _)
    refine ⟨p0, ?_⟩
    rw [parts_get _ _ i hi2]
    have hS0 := sumL_nonneg (valsI L) fun x hx => (k5 x hx).1
    have hle : (sumL gs + spent) * (valsI L)[i] / sumL (valsI L) ≤ sumL gs + spent := by
      by_cases hS : sumL (valsI L) = 0
      · rw [hS]; simp; omega
      · have h5 := k5 _ (List.getElem_mem hi2)
        have h6 := mem_le_sum (valsI L) (fun x hx => (k5 x hx).1) _ (List.getElem_mem hi2)
        have h7 : (sumL gs + spent) * (valsI L)[i] ≤ (sumL gs + spent) * sumL (valsI L) := Int.mul_le_mul_of_nonneg_left h6 k1
        have h8 := Int.ediv_le_ediv (show 0 < sumL (valsI L) by omega) h7
        rwa [Int.mul_ediv_cancel _ (by omega)] at h8
    split <;> omega
  have hGB : ∀ i, i < m → 0 ≤ gs.getD i 0 ∧ gs.getD i 0 ≤ 1099511627776 := by
    intro i hi
    have hi2 : i < gs.length := by rw [hg]; exact hi
    have e : gs.getD i 0 = gs[i] := by rw [List.getD_eq_getElem?_getD, List.getElem?_eq_getElem hi2]; rfl
    rw [e]
    exact f3 _ (List.getElem_mem hi2)
  have HPB := Lib.hid hPB
  have HGB := Lib.hid hGB
  have HLP := Lib.hid (show (partsOf (sumL gs + spent) (valsI L)).length = m by rw [partsOf_length, valsI_length, hn])
  have hz : sumL gs + spent = sumL gs + spent := rfl
  clear hr hn hg hb hs he h1 h2 h3 g1 g2 g3 g4 k1 k2 k4 k5 k6 f1 f3 hPB hGB hz
  have e1 : IntKind.i64.wrap (sumL gs + spent) = sumL gs + spent := IntWalk.i64_in _ (by omega)
  go_enter Try.func46, Try.ntmps46
  go_wp2_with fail
  refine HGv.out.mono ?_
  rintro e w1 ⟨rfl, hb1⟩
  go_wp2_with fail
  refine (HSum.out _ (HB.out.below hb1)).mono ?_
  rintro e w2 ⟨rfl, rfl⟩
  go_wp2_with fail
  refine (HAdj.out _ (HR.out.below hb1)).mono ?_
  rintro e w2 ⟨b2, t2, rfl, hl2, hb2, hP2⟩
  have hB2 := Lib.hid (hb1.trans (hb2.mono hb1.size))
  have hz2 := hB2.out.size
  have HP2 := Lib.hid hP2
  have hlt2 := hP2.lt
  clear hb1 hb2 hP2 hl2
  have hzb := HB.out
  have HSub := Lib.hid (fun k (hk : k < m) => subs_get gs (partsOf (sumL gs + spent) (valsI L)) m k (by rw [HG.out]; exact hk))
  have hgl : (subs gs (partsOf (sumL gs + spent) (valsI L)) m).length = m := by rw [subs_length, HG.out]
  have HGl := Lib.hid hgl
  clear hzb hgl
  generalize hps : partsOf (sumL gs + spent) (valsI L) = ps at *
  generalize hGG : subs gs ps m = G at *
  have HPS := Lib.hid hps
  have HGG := Lib.hid hGG
  clear hps hGG
  go_wp2_with fail
  go_loopw [11, 12] (fun y x wr => ∃ (k : Nat) (A : Option Addr) (e : Nat), y = .slice A k e ∧ x = .int .i64 k ∧ k ≤ m ∧ Hid (Own wr w2.heap.size 2 A k e (vals .i64 (G.take k))) ∧ Hid (Below w2.heap.size w2 wr)) (fun _ x _ => m - (intOf x).toNat)
  case atStart => exact ⟨0, _, 0, rfl, rfl, by omega, by show Own _ _ _ _ _ _ _; simpa [vals] using Own.empty w2 2 w2.heap.size (Nat.le_refl _), (Below.refl _ _).alloc (Nat.le_refl _) _⟩
  case round =>
    obtain ⟨k, A, e, rfl, rfl, hk, hO, hB⟩ := hrel
    by_cases hlt : k < m
    · have hkg : k < gs.length := by rw [HG.out]; exact hlt
      obtain ⟨b6, o6, rfl, hb6, hall6, d5⟩ := (HB.out.below (hB2.out.trans (hB.out.mono hz2))).at k (by simpa using hkg)
      clear hall6
      have d6 : wr.cell? ⟨b6, o6 + k, none⟩ = some (.int .i64 (gs.getD k 0)) := by rw [d5]; simp [vals, hkg]
      have pc := (HP2.out.below hB.out hlt2).cell k (rowI_get .i64 ps k (by rw [HLP.out]; exact hlt))
      have hsg := HSub.out k hlt
      rw [if_pos hlt] at hsg
      have hts : vals .i64 (G.take (k + 1)) = vals .i64 (G.take k) ++ vals .i64 [gs.getD k 0 - ps.getD k 0] := by
        rw [List.take_succ_eq_append_getElem (by rw [HGl.out]; exact hlt), ← vals_append, ← hsg]
        simp [HGl.out, hlt]
      obtain ⟨p0, p1⟩ := HPB.out k hlt
      obtain ⟨q0, q1⟩ := HGB.out k hlt
      have hz := hB.out.size
      have HTS := Lib.hid hts
      clear hts hsg d5
      generalize ps.getD k 0 = p at *
      generalize gs.getD k 0 = q at *
      have e2 : IntKind.i64.wrap (q - p) = q - p := IntWalk.i64_in _ (by omega)
      go_wp2
      go_region_law ((with_reducible refine step_appS _ (o := ⟨some 55, _, _, _, _, _⟩) ?_ (.tmp 44) (.tmp 54) 23 ?_ 1 (by omega) w2.heap.size 2 i0 _ 8 Try.underlying23 HI.out HZ0.out HZ1.out HZ2.out ?_ A k e (vals .i64 (G.take k)) ?_ ?_ (some ⟨wr.heap.size, 0, none⟩) 1 1 (vals .i64 [q - p]) ?_ ?_ ?_ ?_ ?_ ?_ ?_ ?_); (focus rfl); (focus rfl); (focus rfl); (focus (simp [go_sem]; done)); (focus exact (hO.out.alloc _).drew); (focus (simp [go_sem]; done)); (focus rfl); (focus exact (Rd.blk' (Blk.at _ 2 _ rfl)).drew); (focus exact one_vals _ _); (focus (unfold maxLen; omega)); (focus omega); (focus (first | (simp; done) | (simp; omega))); (intro A' c' w3 hown hg3 hb3))
      all_goals
        have HOw := Lib.hid hown
        have HBw := Lib.hid (((hB.out.alloc hz (.cells #[.int .i64 (q - p)] 2)).drew).trans hb3)
        clear hown hg3 hb3
        go_wp2
        go_roundw
        case rel =>
          refine ⟨k + 1, A', c', rfl, by go_num, by omega, ?_, HBw.out⟩
          show Own _ _ _ _ _ _ _
          rw [HTS.out]
          exact HOw.out
        case measure => simp [intOf]; omega
    · obtain rfl : k = m := by omega
      have h1 := hO.out
      rw [List.take_of_length_le (by rw [HGl.out]; exact Nat.le_refl _)] at h1
      have H1 := Lib.hid h1
      clear h1 hO
      go_wp2
      go_ret3
      exact ⟨b2, t2, A, e, rfl, by rw [HPS.out]; exact HP2.out.below hB.out hlt2, by rw [HPS.out, HGG.out]; exact H1.out.mono hz2, hB2.out.trans (hB.out.mono hz2)⟩

end Go.Proofs.Ytbcmaaoddnaoiaa
