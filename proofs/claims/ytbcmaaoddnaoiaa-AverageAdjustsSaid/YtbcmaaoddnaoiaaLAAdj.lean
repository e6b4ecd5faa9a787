/-
  average.Right, the law AverageAdjusts: their walks.
-/
import Derived.Test.YtbcmaaoddnaoiaaLASums
import Derived.Test.YtbcmaaoddnaoiaaRAdj
namespace Go.Proofs.Ytbcmaaoddnaoiaa
set_option linter.unusedVariables false
set_option linter.unusedSimpArgs false
open Go.RowKit

theorem c_sameb (a b : Option Addr) (n c m d : Nat) (xs ys : List Int) (w : World) (hx : xs.length = n) (hy : ys.length = m) (hn : n ≤ 9223372036854775807) (hm : m ≤ 9223372036854775807) (ha : Rd w a (vals .i64 xs)) (hb : Rd w b (vals .i64 ys)) :
    Calls Try.prog 22 #[.slice a n c, .slice b m d] w fun e w' => e = .returned (.bool (decide (xs = ys))) ∧ Below w.heap.size w w' :=
  (c_same a b n c m d xs ys w hx hy hn hm ha hb).mono fun e w' ⟨h, q, hq⟩ => ⟨h, hq ▸ below_drewN (Below.refl _ _) q⟩
theorem c_equalb (a b : Option Addr) (n c m d : Nat) (xs ys : List Int) (w : World) (hx : xs.length = n) (hy : ys.length = m) (hn : n ≤ 9223372036854775807) (hm : m ≤ 9223372036854775807) (ha : Rd w a (vals .i64 xs)) (hb : Rd w b (vals .i64 ys)) :
    Calls Try.prog 59 #[.slice a n c, .slice b m d] w fun e w' => e = .returned (.bool (decide (ys = xs))) ∧ Below w.heap.size w w' :=
  (c_equal a b n c m d xs ys w hx hy hn hm ha hb).mono fun e w' ⟨h, q, hq⟩ => ⟨h.trans (ret_b (by rw [decide_eq_decide]; exact eq_comm)), hq ▸ below_drewN (Below.refl _ _) q⟩

set_option maxHeartbeats 1600000 in
theorem c_aright_bad (lost : Int) (a b : Option Addr) (n c m d : Nat) (L : List (ByteArray × Int)) (w : World) (hn : L.length = n) (hm : n ≤ 4096) (hr : Rd w a (cellsI L)) (hs : ∀ p ∈ L, p.1.size ≤ 9223372036854775807) (he : adjE lost L ≠ 0) :
    Calls Try.prog 26 #[.int .i64 lost, .slice b m d, .slice a n c] w fun e w' => e = .returned (.bool false) ∧ Below w.heap.size w w' := by
  have HA := Lib.hid (c_adjust_bad lost a n c L w hn hm hr hs he)
  have t1 : (adjE lost L == 0) = false := by simpa using he
  clear hn hr hs he
  generalize adjE lost L = E at *
  go_enter Try.func26, Try.ntmps26
  go_wp2_with fail
  refine HA.out.mono ?_
  rintro e w1 ⟨rfl, hb1⟩
  go_wp2_with fail
  go_ret
  exact ⟨rfl, hb1⟩

set_option maxHeartbeats 1600000 in
theorem c_aright (lost : Int) (a b : Option Addr) (n c m d : Nat) (L : List (ByteArray × Int)) (P : List Int) (w : World) (hn : L.length = n) (hm : n ≤ 4096) (hr : Rd w a (cellsI L)) (hs : ∀ p ∈ L, p.1.size ≤ 9223372036854775807) (hp : P.length = m) (hpm : m ≤ 9223372036854775807) (hb : Rd w b (vals .i64 P)) (he : adjE lost L = 0) :
    Calls Try.prog 26 #[.int .i64 lost, .slice b m d, .slice a n c] w fun e w' => e = .returned (.bool (decide (P = partsOf lost (valsI L)))) ∧ Below w.heap.size w w' := by
  have HA := Lib.hid (c_adjust lost a n c L w hn hm hr hs he)
  have hpl : (partsOf lost (valsI L)).length = n := by rw [partsOf_length, valsI_length, hn]
  have HE := Lib.hid (fun x w ha hb => c_equalb x b n n m d (partsOf lost (valsI L)) P w hpl hp (by omega) hpm ha hb)
  have HB := Lib.hid hb
  clear hn hr hs he hp hb hpl
  generalize partsOf lost (valsI L) = ps at *
  go_enter Try.func26, Try.ntmps26
  go_wp2_with fail
  refine HA.out.mono ?_
  rintro e w1 ⟨b1, t1, rfl, hl1, hb1, hP1⟩
  go_wp2_with fail
  refine (HE.out _ _ (Rd.blk' hP1) (HB.out.below hb1)).mono ?_
  rintro e w2 ⟨rfl, hb2⟩
  have HB2 := Lib.hid (hb1.trans (hb2.mono hb1.size))
  clear hb1 hb2 hP1
  go_wp2_with fail
  go_ret
  exact ⟨rfl, HB2.out⟩

set_option maxHeartbeats 1600000 in
theorem l_aadj_few (lost : Int) (a b : Option Addr) (n c m d : Nat) (L : List (ByteArray × Int)) (w : World) (hn : L.length = n) (hm : n ≤ 9223372036854775807) (hr : Rd w a (cellsI L)) (hs : ∀ p ∈ L, p.1.size ≤ 9223372036854775807) (hgm : m ≤ 9223372036854775807) (hf : fewG L m = false) :
    Calls Try.prog 9 #[.int .i64 lost, .slice a n c, .slice b m d] w fun e w' => e = .returned (.bool true) ∧ Below w.heap.size w w' := by
  have HF := Lib.hid (fun w hr => c_few a b n c m d L w hn hm hgm hr hs)
  rw [hf] at HF
  have HR := Lib.hid hr
  clear hn hr hs hf
  go_enter Try.func9, Try.ntmps9
  go_wp2_with fail
  refine (c_awake43 _).mono ?_
  rintro e w1 ⟨rfl, hb1⟩
  go_wp2_with fail
  refine (HF.out _ (HR.out.below hb1)).mono ?_
  rintro e w2 ⟨rfl, hb2⟩
  have HB := Lib.hid (hb1.trans (hb2.mono hb1.size))
  clear hb1 hb2
  go_wp2_with fail
  go_ret
  exact ⟨rfl, HB.out⟩

set_option maxHeartbeats 3200000 in
theorem l_aadj_bad (lost : Int) (a b : Option Addr) (n c m d : Nat) (L : List (ByteArray × Int)) (w : World) (hn : L.length = n) (hm : n ≤ 4096) (hr : Rd w a (cellsI L)) (hs : ∀ p ∈ L, p.1.size ≤ 9223372036854775807) (hgm : m ≤ 9223372036854775807) (hf : fewG L m = true) (he : adjE lost L ≠ 0) :
    Calls Try.prog 9 #[.int .i64 lost, .slice a n c, .slice b m d] w fun e w' => e = .returned (.bool true) ∧ Below w.heap.size w w' := by
  have HF := fun w hr => c_few a b n c m d L w hn (by omega) hgm hr hs
  rw [hf] at HF
  have HF := Lib.hid HF
  have H1 := Lib.hid (fun w hr => c_adjust_bad lost a n c L w hn hm hr hs he)
  have H2 := Lib.hid (fun w hr => c_radjust_bad lost a n c L w hn hm hr hs he)
  have H3 := Lib.hid (fun b m d w hr => c_aright_bad lost a b n c m d L w hn hm hr hs he)
  have t1 : (adjE lost L == 0) = false := by simpa using he
  have HR := Lib.hid hr
  clear hn hr hs hf he
  generalize adjE lost L = E at *
  go_enter Try.func9, Try.ntmps9
  go_wp2_with fail
  refine (c_awake43 _).mono ?_
  rintro e w1 ⟨rfl, hb1⟩
  go_wp2_with fail
  refine (HF.out _ (HR.out.below hb1)).mono ?_
  rintro e w2 ⟨rfl, hb2⟩
  have HB2 := Lib.hid (hb1.trans (hb2.mono hb1.size))
  clear hb1 hb2
  go_wp2_with fail
  refine (H1.out _ (HR.out.below HB2.out)).mono ?_
  rintro e w3 ⟨rfl, hb3⟩
  have HB3 := Lib.hid (HB2.out.trans (hb3.mono HB2.out.size))
  clear hb3
  go_wp2_with fail
  refine (H2.out _ (HR.out.below HB3.out)).mono ?_
  rintro e w4 ⟨rfl, hb4⟩
  have HB4 := Lib.hid (HB3.out.trans (hb4.mono HB3.out.size))
  clear hb4
  go_wp2_with fail
  have hc := c_sameb none none 0 0 0 0 [] [] w4 rfl rfl (by omega) (by omega) (Rd.nil _ _) (Rd.nil _ _)
  rw [show decide (([] : List Int) = []) = true from by decide] at hc
  refine hc.mono ?_
  clear hc
  rintro e w5 ⟨rfl, hb5⟩
  have HB5 := Lib.hid (HB4.out.trans (hb5.mono HB4.out.size))
  clear hb5
  go_wp2_with fail
  refine (H3.out _ _ _ _ (HR.out.below HB5.out)).mono ?_
  rintro e w6 ⟨rfl, hb6⟩
  have HB6 := Lib.hid (HB5.out.trans (hb6.mono HB5.out.size))
  clear hb6
  go_wp2_with fail
  refine (H3.out _ _ _ _ (HR.out.below HB6.out)).mono ?_
  rintro e w7 ⟨rfl, hb7⟩
  have HB7 := Lib.hid (HB6.out.trans (hb7.mono HB6.out.size))
  clear hb7
  go_wp2_with fail
  go_ret
  exact ⟨rfl, HB7.out⟩

set_option maxHeartbeats 3200000 in
theorem l_aadj_good (lost : Int) (a b : Option Addr) (n c m d : Nat) (L : List (ByteArray × Int)) (P : List Int) (w : World) (hn : L.length = n) (hm : n ≤ 4096) (hr : Rd w a (cellsI L)) (hs : ∀ p ∈ L, p.1.size ≤ 9223372036854775807) (hp : P.length = m) (hgm : m ≤ 9223372036854775807) (hb : Rd w b (vals .i64 P)) (hf : fewG L m = true) (he : adjE lost L = 0) :
    Calls Try.prog 9 #[.int .i64 lost, .slice a n c, .slice b m d] w fun e w' => e = .returned (.bool true) ∧ Below w.heap.size w w' := by
  have HF := fun w hr => c_few a b n c m d L w hn (by omega) hgm hr hs
  rw [hf] at HF
  have HF := Lib.hid HF
  have hpl : (partsOf lost (valsI L)).length = n := by rw [partsOf_length, valsI_length, hn]
  have H1 := Lib.hid (fun w hr => c_adjust lost a n c L w hn hm hr hs he)
  have H2 := Lib.hid (fun w hr => c_radjust lost a n c L w hn hm hr hs he)
  have H3 := Lib.hid (fun w hr hb => c_aright lost a b n c m d L P w hn hm hr hs hp hgm hb he)
  have H4 := Lib.hid (fun b w hr hb => c_aright lost a b n c n n L (partsOf lost (valsI L)) w hn hm hr hs hpl (by omega) hb he)
  have HPl := Lib.hid hpl
  have HPP := Lib.hid hp
  have HR := Lib.hid hr
  have HB := Lib.hid hb
  clear hn hr hs hf he hpl hp hb
  generalize partsOf lost (valsI L) = ps at *
  go_enter Try.func9, Try.ntmps9
  go_wp2_with fail
  refine (c_awake43 _).mono ?_
  rintro e w1 ⟨rfl, hb1⟩
  go_wp2_with fail
  refine (HF.out _ (HR.out.below hb1)).mono ?_
  rintro e w2 ⟨rfl, hb2⟩
  have HB2 := Lib.hid (hb1.trans (hb2.mono hb1.size))
  clear hb1 hb2
  go_wp2_with fail
  refine (H1.out _ (HR.out.below HB2.out)).mono ?_
  rintro e w3 ⟨b3, t3, rfl, hl3, hb3, hP3⟩
  have HB3 := Lib.hid (HB2.out.trans (hb3.mono HB2.out.size))
  have HP3 := Lib.hid (Rd.blk' hP3)
  clear hb3 hP3 hl3
  go_wp2_with fail
  refine (H2.out _ (HR.out.below HB3.out)).mono ?_
  rintro e w4 ⟨b4, t4, rfl, hl4, hb4, hP4⟩
  have HB4 := Lib.hid (HB3.out.trans (hb4.mono HB3.out.size))
  have HP34 := Lib.hid (HP3.out.below hb4)
  have HP4 := Lib.hid (Rd.blk' hP4)
  clear hb4 hP4 hl4
  go_wp2_with fail
  have hc := c_sameb (some ⟨b3, 0, none⟩) (some ⟨b4, 0, none⟩) n n n n ps ps w4 HPl.out HPl.out (by omega) (by omega) HP34.out HP4.out
  rw [show decide (ps = ps) = true from by simp] at hc
  refine hc.mono ?_
  clear hc
  rintro e w5 ⟨rfl, hb5⟩
  have HB5 := Lib.hid (HB4.out.trans (hb5.mono HB4.out.size))
  have HP35 := Lib.hid (HP34.out.below hb5)
  have HP45 := Lib.hid (HP4.out.below hb5)
  clear hb5
  go_wp2_with fail
  refine (H3.out _ (HR.out.below HB5.out) (HB.out.below HB5.out)).mono ?_
  rintro e w6 ⟨rfl, hb6⟩
  have HB6 := Lib.hid (HB5.out.trans (hb6.mono HB5.out.size))
  have HP36 := Lib.hid (HP35.out.below hb6)
  have HP46 := Lib.hid (HP45.out.below hb6)
  clear hb6
  go_wp2_with fail
  have hc := c_sameb b (some ⟨b4, 0, none⟩) m d n n P ps w6 HPP.out HPl.out hgm (by omega) (HB.out.below HB6.out) HP46.out
  refine hc.mono ?_
  clear hc
  rintro e w7 ⟨rfl, hb7⟩
  have HB7 := Lib.hid (HB6.out.trans (hb7.mono HB6.out.size))
  have HP37 := Lib.hid (HP36.out.below hb7)
  clear hb7
  generalize decide (P = ps) = u at *
  go_wp2_with fail
  have hc := H4.out _ _ (HR.out.below HB7.out) HP37.out
  simp only [decide_true] at hc
  refine hc.mono ?_
  clear hc
  rintro e w8 ⟨rfl, hb8⟩
  have HB8 := Lib.hid (HB7.out.trans (hb8.mono HB7.out.size))
  clear hb8
  go_wp2_with fail
  go_ret
  exact ⟨rfl, HB8.out⟩

theorem l_aadj (lost : Int) (a : Option Addr) (n c : Nat) (L : List (ByteArray × Int)) (b : Option Addr) (m d : Nat) (P : List Int) (w : World) (hlw : (Lit.int .i64 lost).wf = true) (hn : L.length = n) (hm : n ≤ 9223372036854775807) (hr : Rd w a (cellsI L)) (hs : ∀ p ∈ L, p.1.size ≤ 9223372036854775807 ∧ (Lit.int .i64 p.2).wf = true) (hg : P.length = m) (hgm : m ≤ 9223372036854775807) (hb : Rd w b (vals .i64 P)) (hgz : ∀ x ∈ P, (Lit.int .i64 x).wf = true) :
    Calls Try.prog 9 #[.int .i64 lost, .slice a n c, .slice b m d] w fun e w' => e = .returned (.bool true) ∧ Below w.heap.size w w' := by
  have hs' : ∀ p ∈ L, p.1.size ≤ 9223372036854775807 := fun p hp => (hs p hp).1
  cases hf : fewG L m
  · exact l_aadj_few lost a b n c m d L w hn hm hr hs' hgm hf
  · have h1 := (fewG_len hf).1
    rw [hn] at h1
    by_cases he : adjE lost L = 0
    · exact l_aadj_good lost a b n c m d L P w hn (by omega) hr hs' hg hgm hb hf he
    · exact l_aadj_bad lost a b n c m d L w hn (by omega) hr hs' hgm hf he

end Go.Proofs.Ytbcmaaoddnaoiaa
