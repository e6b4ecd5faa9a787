/-
  The law AverageEnds, where all is more than may be: its walk.
-/
import Derived.Test.YtbcmaaoddnaoiaaLAEnds
namespace Go.Proofs.Ytbcmaaoddnaoiaa
set_option linter.unusedVariables false
set_option linter.unusedSimpArgs false
open Go.RowKit

set_option maxRecDepth 100000 in
set_option maxHeartbeats 3200000 in
theorem l_aends_range (a : Option Addr) (n c : Nat) (L : List (ByteArray × Int)) (w : World) (hn : L.length = n) (hm : n ≤ 31) (hr : Rd w a (cellsI L)) (hs : ∀ p ∈ L, p.1.size ≤ 9223372036854775807) (hf : fewG L 0 = true) (hb : mayB L = true) (hS : 1099511627776 < sumL (valsI L)) :
    Calls Try.prog 7 #[.slice a n c] w fun e w' => e = .returned (.bool true) ∧ Below w.heap.size w w' := by
  obtain ⟨i0, hi, hz0, hz1, hz2⟩ := info_parts info_i64v
  have HI := Lib.hid hi
  have HZ0 := Lib.hid hz0
  have HZ1 := Lib.hid hz1
  have HZ2 := Lib.hid hz2
  have hmk := mk38 n (by omega)
  have HF := fun w hr => c_few a none n c 0 0 L w hn (by omega) (by omega) hr hs
  rw [hf] at HF
  have HF := Lib.hid HF
  have hE : wholeE L (valsI L) 0 = 3 := by rw [whole_all hb, if_pos hS]
  have hE0 : wholeE L (List.replicate n 0) 0 = 0 := by rw [← hn]; exact whole_none hb
  have HG := fun (b : Option Addr) (d : Nat) (w : World) (hr : Rd w a (cellsI L)) (hb' : Rd w b (vals .i64 (List.replicate n 0))) => c_whole a b n c n d L (List.replicate n 0) 0 w hn (by omega) hr hs (by simp) (by omega) hb' hE0
  unfold WholeOk at HG
  have HG := Lib.hid HG
  have HW := Lib.hid (fun (b : Option Addr) (d : Nat) (w : World) (hr : Rd w a (cellsI L)) (hb' : Rd w b (vals .i64 (valsI L))) =>
    (c_whole_bad a b n c n d L (valsI L) 0 w hn (by omega) hr hs (by rw [valsI_length, hn]) (by omega) hb' (by rw [hE]; decide)).mono fun e w' h => ret_t3 h hE)
  have HP := Lib.hid (fun (b : Option Addr) (d : Nat) (w : World) (hr : Rd w a (cellsI L)) (hb' : Rd w b (vals .i64 (valsI L))) =>
    (c_pays_bad a b n c n d L (valsI L) 0 w hn (by omega) hr hs (by rw [valsI_length, hn]) (by omega) hb' (by rw [hE]; decide)).mono fun e w' h => ret_t2 h hE)
  have HR := Lib.hid hr
  have HN := Lib.hid hn
  have HVl := Lib.hid (show (valsI L).length = n by rw [valsI_length, hn])
  clear hi hz0 hz1 hz2 hn hr hs hf hb hE hE0 hS
  go_enter Try.func7, Try.ntmps7
  go_wp2_with fail
  refine (c_awake43 _).mono ?_
  rintro e w1 ⟨rfl, hb1⟩
  go_wp2_with fail
  refine (HF.out _ (HR.out.below hb1)).mono ?_
  rintro e w2 ⟨rfl, hb2⟩
  have HB2 := Lib.hid (hb1.trans (hb2.mono hb1.size))
  have hz2 := HB2.out.size
  clear hb1 hb2
  go_wp2_with fail
  have hB0 : Blk (w2.alloc (.cells (zer .i64 n) 2)) w2.heap.size 2 (rowI .i64 (List.replicate n 0)) := Blk.new _ _ _
  have hBn := HB2.out.alloc hz2 (.cells (zer .i64 n) 2)
  have hsn : w2.heap.size < (w2.alloc (.cells (zer .i64 n) 2)).heap.size := by simp
  have hsz : w2.heap.size + 1 = (w2.alloc (.cells (zer .i64 n) 2)).heap.size := by simp
  rw [hsz]
  generalize w2.alloc (.cells (zer .i64 n) 2) = wn at *
  have H0 := Lib.hid hB0
  have HBn := Lib.hid hBn
  have hzn := hBn.size
  clear hB0 hBn HB2
  go_loopw [4, 5] (fun y x wr => ∃ (k : Nat) (A : Option Addr) (d : Nat), y = .slice A k d ∧ x = .int .i64 k ∧ k ≤ n ∧ Hid (Own wr wn.heap.size 2 A k d (vals .i64 (valsI (L.take k)))) ∧ Hid (Below wn.heap.size wn wr)) (fun _ x _ => n - (intOf x).toNat)
  case atStart => exact ⟨0, _, 0, rfl, rfl, by omega, by show Own _ _ _ _ _ _ _; simpa [vals, valsI] using Own.empty wn 2 wn.heap.size (Nat.le_refl _), (Below.refl _ _).alloc (Nat.le_refl _) _⟩
  case round =>
    obtain ⟨k, A, d, rfl, rfl, hk, hO, hB⟩ := hrel
    by_cases hlt : k < n
    · have hkz : k < L.length := by rw [HN.out]; exact hlt
      obtain ⟨b, o, rfl, hb, hc1, hc2⟩ := intr_at (HR.out.below (HBn.out.trans (hB.out.mono hzn))) k hkz
      have hts := valsI_take_succ L k hkz
      have hz := hB.out.size
      generalize L[k].1 = s at *
      generalize L[k].2 = v at *
      have HTS := Lib.hid hts
      clear hts
      go_wp2_with (at_builtin; refine wpList_app _ rfl (.tmp 34) (.tmp 40) _ rfl wn.heap.size 2 i0 _ 8 Try.underlying23 HI.out HZ0.out HZ1.out HZ2.out rfl A k d _ rfl (hO.out.alloc _) (some ⟨wr.heap.size, 0, none⟩) 1 1 (vals .i64 [v]) rfl rfl (Rd.blk' (t := 2) (Blk.at _ _ _ (by simp))) (one_vals _ _) (by unfold maxLen; omega) (by omega) (by simp; omega) ?_; intro A' c' w3 hown hg hb3)
      go_roundw
      case rel =>
        refine ⟨k + 1, A', c', rfl, by go_num, by omega, ?_, ?_⟩
        · show Own _ _ _ _ _ _ _
          rw [HTS.out, ← vals_append]
          exact hown
        · exact (hB.out.alloc hz _).trans hb3
      case measure => simp [intOf]; omega
    · obtain rfl : k = n := by omega
      have h1 := hO.out
      rw [List.take_of_length_le (by rw [HN.out]; exact Nat.le_refl _)] at h1
      have H1 := Lib.hid h1
      have HBr := Lib.hid (HBn.out.trans (hB.out.mono hzn))
      have H0r := Lib.hid (H0.out.below hB.out hsn)
      clear h1 hO
      go_wp2_with fail
      refine (HG.out _ _ _ (HR.out.below HBr.out) (Rd.blk' H0r.out)).mono ?_
      rintro e w4 ⟨p4, t4, A4, c4, rfl, hP4, hO4', hb4⟩
      have HB4 := Lib.hid (HBr.out.trans (hb4.mono HBr.out.size))
      have HO4 := Lib.hid (H1.out.rd.below hb4)
      clear hb4
      go_wp2_with fail
      refine (HW.out _ _ _ (HR.out.below HB4.out) HO4.out).mono ?_
      rintro e w5 ⟨rfl, hb5⟩
      have HB5 := Lib.hid (HB4.out.trans (hb5.mono HB4.out.size))
      have HO5 := Lib.hid (HO4.out.below hb5)
      clear hb5
      go_wp2_with fail
      refine (HP.out _ _ _ (HR.out.below HB5.out) HO5.out).mono ?_
      rintro e w6 ⟨rfl, hb6⟩
      have HB6 := Lib.hid (HB5.out.trans (hb6.mono HB5.out.size))
      clear hb6
      go_wp2_with fail
      go_ret
      exact ⟨rfl, HB6.out⟩

end Go.Proofs.Ytbcmaaoddnaoiaa
