/-
  The reference's weights, sum, Adjust; average.Right: their walks.
-/
import Derived.Test.YtbcmaaoddnaoiaaWhole
import Derived.Test.YtbcmaaoddnaoiaaRMay
import Derived.Test.YtbcmaaoddnaoiaaRError
import Derived.Test.YtbcmaaoddnaoiaaRSplit
import Derived.Test.YtbcmaaoddnaoiaaEqual
namespace Go.Proofs.Ytbcmaaoddnaoiaa
set_option linter.unusedVariables false
set_option linter.unusedSimpArgs false
open Go.RowKit

set_option maxRecDepth 100000 in
set_option maxHeartbeats 1600000 in
theorem c_rweights (a : Option Addr) (n c : Nat) (L : List (ByteArray × Int)) (w : World) (hn : L.length = n) (hm : n ≤ 4096) (hr : Rd w a (cellsI L)) :
    Calls Try.prog 56 #[.slice a n c] w fun e w' => ∃ A' c', e = .returned (.slice A' n c') ∧ Own w' w.heap.size 2 A' n c' (vals .i64 (valsI L)) ∧ Below w.heap.size w w' := by
  obtain ⟨i0, hi, hz0, hz1, hz2⟩ := info_parts info_i64v
  have HI := Lib.hid hi
  have HZ0 := Lib.hid hz0
  have HZ1 := Lib.hid hz1
  have HZ2 := Lib.hid hz2
  have HR := Lib.hid hr
  have HN := Lib.hid hn
  clear hi hz0 hz1 hz2 hr hn
  go_enter Try.func56, Try.ntmps56
  go_wp2
  go_loopw [3, 4] (fun y x wr => ∃ (k : Nat) (A : Option Addr) (d : Nat), y = .slice A k d ∧ x = .int .i64 k ∧ k ≤ n ∧ Hid (Own wr w.heap.size 2 A k d (vals .i64 (valsI (L.take k)))) ∧ Hid (Below w.heap.size w wr)) (fun _ x _ => n - (intOf x).toNat)
  case atStart => exact ⟨0, _, 0, rfl, rfl, by omega, by show Own _ _ _ _ _ _ _; simpa [vals, valsI] using Own.empty w 2 w.heap.size (Nat.le_refl _), (Below.refl _ _).alloc (Nat.le_refl _) _⟩
  case round =>
    obtain ⟨k, A, d, rfl, rfl, hk, hO, hB⟩ := hrel
    by_cases hlt : k < n
    · have hkz : k < L.length := by rw [HN.out]; exact hlt
      obtain ⟨b, o, rfl, hb, hc1, hc2⟩ := intr_at (HR.out.below hB.out) k hkz
      have hts := valsI_take_succ L k hkz
      have hz := hB.out.size
      generalize L[k].1 = s at *
      generalize L[k].2 = v at *
      have HTS := Lib.hid hts
      clear hts
      go_wp2_with (at_builtin; refine wpList_app _ rfl (.tmp 12) (.tmp 18) _ rfl w.heap.size 2 i0 _ 8 Try.underlying23 HI.out HZ0.out HZ1.out HZ2.out rfl A k d _ rfl (hO.out.alloc _) (some ⟨wr.heap.size, 0, none⟩) 1 1 (vals .i64 [v]) rfl rfl (Rd.blk' (t := 2) (Blk.at _ _ _ (by simp))) (one_vals _ _) (by unfold maxLen; omega) (by omega) (by simp; omega) ?_; intro A' c' w3 hown hg hb3)
      go_roundw
      case rel =>
        refine ⟨k + 1, A', c', rfl, by go_num, by omega, ?_, ?_⟩
        · show Own _ _ _ _ _ _ _
          rw [HTS.out, ← vals_append]
          exact hown
        · exact (hB.out.alloc hz _).trans hb3
      case measure => simp [intOf]; omega
    · obtain rfl : k = n := by omega
      have h1 := hO.out
      rw [List.take_of_length_le (by rw [HN.out]; exact Nat.le_refl _)] at h1
      have H1 := Lib.hid h1
      clear h1 hO
      go_wp2
      go_ret
      exact ⟨A, d, rfl, H1.out, hB.out⟩

set_option maxHeartbeats 800000 in
theorem c_rsum (a : Option Addr) (n c : Nat) (zs : List Int) (w : World) (hn : zs.length = n) (hm : n ≤ 4096) (hr : Rd w a (vals .i64 zs)) (hz : ∀ x ∈ zs, 0 ≤ x ∧ x ≤ 1099511627776) :
    Calls Try.prog 55 #[.slice a n c] w fun e w' => e = .returned (.int .i64 (sumL zs)) ∧ w = w' := by
  have HR := Lib.hid hr
  have HN := Lib.hid hn
  have HZ := Lib.hid hz
  clear hr hn hz
  go_enter Try.func55, Try.ntmps55
  go_wp2
  go_loop [3, 4] (fun x y => ∃ (k : Nat) (s : Int), y = .int .i64 k ∧ x = .int .i64 s ∧ k ≤ n ∧ 0 ≤ s ∧ s ≤ 1099511627776 * k ∧ Hid (s = sumL (zs.take k))) (fun _ y => n - (intOf y).toNat)
  case atStart => exact ⟨0, 0, rfl, rfl, by omega, by omega, by omega, by show _ = _; simp [sumL]⟩
  case round =>
    obtain ⟨k, s, rfl, rfl, hk, hs0, hs1, hs⟩ := hrel
    by_cases hlt : k < n
    · have hkz : k < zs.length := by rw [HN.out]; exact hlt
      obtain ⟨b, o, rfl, hb, hall, hc⟩ := HR.out.at k (by simpa using hkz)
      clear hall
      rw [vals_get .i64 zs k hkz] at hc
      have ht := sumL_take_succ' zs k hkz
      obtain ⟨z0, z1⟩ := HZ.out zs[k] (List.getElem_mem hkz)
      generalize zs[k] = x at *
      have HT := Lib.hid ht
      clear ht
      go_wp2
      go_round
      case rel => exact ⟨k + 1, s + x, by go_num, rfl, by omega, by omega, by omega, by have h1 := HT.out; have h2 := hs.out; show _ = _; omega⟩
      case measure => simp [intOf]; omega
    · obtain rfl : k = n := by omega
      have h1 := hs.out
      rw [List.take_of_length_le (by rw [HN.out]; exact Nat.le_refl _)] at h1
      have H1 := Lib.hid h1
      clear h1 hs
      go_wp2
      go_ret
      exact ⟨ret_i H1.out, rfl⟩

theorem c_rmayb (a : Option Addr) (n c : Nat) (L : List (ByteArray × Int)) (w : World) (hn : L.length = n) (hm : n ≤ 1048576) (hr : Rd w a (cellsI L)) (hs : ∀ p ∈ L, p.1.size ≤ 9223372036854775807) :
    Calls Try.prog 54 #[.slice a n c] w fun e w' => e = .returned (.bool (mayB L)) ∧ Below w.heap.size w w' :=
  (c_rmay a n c L w hn hm hr hs).mono fun e w' ⟨h, q, hq⟩ => ⟨h, hq ▸ below_drewN (Below.refl _ _) q⟩

set_option maxHeartbeats 1600000 in
theorem c_radjust_bad (lost : Int) (a : Option Addr) (n c : Nat) (L : List (ByteArray × Int)) (w : World) (hn : L.length = n) (hm : n ≤ 4096) (hr : Rd w a (cellsI L)) (hs : ∀ p ∈ L, p.1.size ≤ 9223372036854775807) (he : adjE lost L ≠ 0) :
    Calls Try.prog 25 #[.int .i64 lost, .slice a n c] w fun e w' => e = .returned (.tuple #[.slice none 0 0, .int .i64 (adjE lost L)]) ∧ Below w.heap.size w w' := by
  have HM := Lib.hid (fun w hr => c_rmayb a n c L w hn (by omega) hr hs)
  have HWt := Lib.hid (fun w hr => c_rweights a n c L w hn hm hr)
  have HR := Lib.hid hr
  have HVl := Lib.hid (show (valsI L).length = n by rw [valsI_length, hn])
  clear hr hs hn
  cases h1 : mayB L
  · have hE : adjE lost L = 1 := by unfold adjE; rw [if_pos (.inl h1)]
    rw [hE]
    rw [h1] at HM
    clear h1 hE he
    go_enter Try.func25, Try.ntmps25
    go_wp2_with fail
    refine (HM.out _ HR.out).mono ?_
    rintro e w1 ⟨rfl, hb1⟩
    go_wp2_with fail
    go_ret2
    exact ⟨rfl, hb1⟩
  · rw [h1] at HM
    by_cases hl : lost < 0
    · have hE : adjE lost L = 1 := by unfold adjE; rw [if_pos (.inr hl)]
      rw [hE]
      clear h1 hE he
      go_enter Try.func25, Try.ntmps25
      go_wp2_with fail
      refine (HM.out _ HR.out).mono ?_
      rintro e w1 ⟨rfl, hb1⟩
      go_wp2_with fail
      go_ret2
      exact ⟨rfl, hb1⟩
    · have HSm := Lib.hid (fun a c w hr => c_rsum a n c (valsI L) w HVl.out hm hr (mayB_amt h1))
      by_cases h2 : sumL (valsI L) < lost
      · have hE : adjE lost L = 3 := by unfold adjE; rw [if_neg (by rw [h1]; simp; omega), if_pos h2]
        rw [hE]
        clear h1 hE he
        generalize sumL (valsI L) = S at *
        go_enter Try.func25, Try.ntmps25
        go_wp2_with fail
        refine (HM.out _ HR.out).mono ?_
        rintro e w1 ⟨rfl, hb1⟩
        go_wp2_with fail
        refine (HWt.out _ (HR.out.below hb1)).mono ?_
        rintro e w2 ⟨A2, c2, rfl, hO2, hb2⟩
        go_wp2_with fail
        refine (HSm.out _ _ _ hO2.rd).mono ?_
        rintro e w3 ⟨rfl, rfl⟩
        have HB := Lib.hid (hb1.trans (hb2.mono hb1.size))
        clear hb1 hb2 hO2
        go_wp2_with fail
        go_ret2
        exact ⟨rfl, HB.out⟩
      · have hE : adjE lost L = errS lost (valsI L) := by unfold adjE; rw [if_neg (by rw [h1]; simp; omega), if_neg h2]
        rw [hE] at he ⊢
        have HEr := Lib.hid (fun a c w hr => c_rerror lost a n c (valsI L) w HVl.out (by omega) hr)
        have t1 : (errS lost (valsI L) != 0) = true := by simpa using he
        clear h1 hE he
        generalize sumL (valsI L) = S at *
        generalize errS lost (valsI L) = E at *
        go_enter Try.func25, Try.ntmps25
        go_wp2_with fail
        refine (HM.out _ HR.out).mono ?_
        rintro e w1 ⟨rfl, hb1⟩
        go_wp2_with fail
        refine (HWt.out _ (HR.out.below hb1)).mono ?_
        rintro e w2 ⟨A2, c2, rfl, hO2, hb2⟩
        go_wp2_with fail
        refine (HSm.out _ _ _ hO2.rd).mono ?_
        rintro e w3 ⟨rfl, rfl⟩
        have HB := Lib.hid (hb1.trans (hb2.mono hb1.size))
        clear hb1 hb2 hO2
        go_wp2_with fail
        refine (HWt.out _ (HR.out.below HB.out)).mono ?_
        rintro e w3 ⟨A3, c3, rfl, hO3, hb3⟩
        go_wp2_with fail
        refine (HEr.out _ _ _ hO3.rd).mono ?_
        rintro e w4 ⟨rfl, rfl⟩
        have HB3 := Lib.hid (HB.out.trans (hb3.mono HB.out.size))
        clear hb3 hO3
        go_wp2_with fail
        go_ret2
        exact ⟨rfl, HB3.out⟩

set_option maxHeartbeats 1600000 in
theorem c_radjust (lost : Int) (a : Option Addr) (n c : Nat) (L : List (ByteArray × Int)) (w : World) (hn : L.length = n) (hm : n ≤ 4096) (hr : Rd w a (cellsI L)) (hs : ∀ p ∈ L, p.1.size ≤ 9223372036854775807) (he : adjE lost L = 0) :
    Calls Try.prog 25 #[.int .i64 lost, .slice a n c] w fun e w' => ∃ b t, e = .returned (.tuple #[.slice (some ⟨b, 0, none⟩) n n, .int .i64 0]) ∧ w.heap.size ≤ b ∧ Below w.heap.size w w' ∧ Blk w' b t (rowI .i64 (partsOf lost (valsI L))) := by
  obtain ⟨h1, h2, h3, h4⟩ := adjE_zero he
  have HM := fun w hr => c_rmayb a n c L w hn (by omega) hr hs
  rw [h1] at HM
  have HM := Lib.hid HM
  have HWt := Lib.hid (fun w hr => c_rweights a n c L w hn hm hr)
  have hvl : (valsI L).length = n := by rw [valsI_length, hn]
  have HSm := Lib.hid (fun a c w hr => c_rsum a n c (valsI L) w hvl hm hr (mayB_amt h1))
  have HEr := fun a c w hr => c_rerror lost a n c (valsI L) w hvl (by omega) hr
  rw [h4] at HEr
  have HEr := Lib.hid HEr
  have HSp := Lib.hid (fun a c w hr => c_rsplit lost a n c (valsI L) w hvl hr h4)
  have HR := Lib.hid hr
  clear hr hs hn hvl h1 h4 he
  generalize sumL (valsI L) = S at *
  generalize partsOf lost (valsI L) = ps at *
  go_enter Try.func25, Try.ntmps25
  go_wp2_with fail
  refine (HM.out _ HR.out).mono ?_
  rintro e w1 ⟨rfl, hb1⟩
  go_wp2_with fail
  refine (HWt.out _ (HR.out.below hb1)).mono ?_
  rintro e w2 ⟨A2, c2, rfl, hO2, hb2⟩
  go_wp2_with fail
  refine (HSm.out _ _ _ hO2.rd).mono ?_
  rintro e w3 ⟨rfl, rfl⟩
  have HB := Lib.hid (hb1.trans (hb2.mono hb1.size))
  clear hb1 hb2 hO2
  go_wp2_with fail
  refine (HWt.out _ (HR.out.below HB.out)).mono ?_
  rintro e w3 ⟨A3, c3, rfl, hO3, hb3⟩
  go_wp2_with fail
  refine (HEr.out _ _ _ hO3.rd).mono ?_
  rintro e w4 ⟨rfl, rfl⟩
  have HB3 := Lib.hid (HB.out.trans (hb3.mono HB.out.size))
  clear hb3 hO3
  go_wp2_with fail
  refine (HWt.out _ (HR.out.below HB3.out)).mono ?_
  rintro e w4 ⟨A4, c4, rfl, hO4, hb4⟩
  go_wp2_with fail
  refine (HSp.out _ _ _ hO4.rd).mono ?_
  rintro e w5 ⟨b5, t5, rfl, hl5, hb5, hP5⟩
  have HB4 := Lib.hid (HB3.out.trans (hb4.mono HB3.out.size))
  have HB5 := Lib.hid (HB4.out.trans (hb5.mono HB4.out.size))
  have HP5 := Lib.hid hP5
  have hz4 := HB4.out.size
  clear hb4 hb5 hP5 hO4
  go_wp2_with fail
  go_ret2
  exact ⟨b5, t5, rfl, by omega, HB5.out, HP5.out⟩

end Go.Proofs.Ytbcmaaoddnaoiaa
