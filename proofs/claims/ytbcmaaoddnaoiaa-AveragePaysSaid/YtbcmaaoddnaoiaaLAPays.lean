/-
  The law AveragePays: its walk.
-/
import Derived.Test.YtbcmaaoddnaoiaaRPays
namespace Go.Proofs.Ytbcmaaoddnaoiaa
set_option linter.unusedVariables false
set_option linter.unusedSimpArgs false
open Go.RowKit

set_option maxHeartbeats 1600000 in
theorem l_apays_good (a b : Option Addr) (m c d : Nat) (L : List (ByteArray × Int)) (gs : List Int) (spent : Int) (w : World) (hn : L.length = m) (hm : m ≤ 31) (hr : Rd w a (cellsI L)) (hs : ∀ p ∈ L, p.1.size ≤ 9223372036854775807) (hg : gs.length = m) (hb : Rd w b (vals .i64 gs)) (hf : fewG L m = true) (he : wholeE L gs spent = 0) :
    Calls Try.prog 3 #[.slice a m c, .slice b m d, .int .i64 spent] w fun e w' => e = .returned (.bool true) ∧ Below w.heap.size w w' := by
  have HF := fun w hr => c_few a b m c m d L w hn (by omega) (by omega) hr hs
  rw [hf] at HF
  have HF := Lib.hid HF
  have H1 := fun w hr hb => c_pays a b m c m d L gs spent w hn (by omega) hr hs hg (by omega) hb he
  have H2 := fun w hr hb => c_rpays a b m c d L gs spent w hn (by omega) hr hs hg hb he
  have hlen : (debtsOf L gs spent).length ≤ 9223372036854775807 := by
    have h1 := payS_count (namesB L) (getsOf L gs spent) spent L.length
    have h2 := (gets_facts (whole_facts he)).1
    rw [h2, hn] at h1
    have h3 : (m + 1) * m ≤ 32 * 31 := Nat.mul_le_mul (by omega) hm
    unfold debtsOf
    rw [hn]
    omega
  unfold PaysOk at H1 H2
  have H1 := Lib.hid H1
  have H2 := Lib.hid H2
  have HR := Lib.hid hr
  have HB := Lib.hid hb
  clear hn hr hs hf hg hb he
  generalize debtsOf L gs spent = D at *
  go_enter Try.func3, Try.ntmps3
  go_wp2_with fail
  refine (c_awake43 _).mono ?_
  rintro e w1 ⟨rfl, hb1⟩
  go_wp2_with fail
  refine (HF.out _ (HR.out.below hb1)).mono ?_
  rintro e w2 ⟨rfl, hb2⟩
  have HB2 := Lib.hid (hb1.trans (hb2.mono hb1.size))
  clear hb1 hb2
  go_wp2_with fail
  refine (H1.out _ (HR.out.below HB2.out) (HB.out.below HB2.out)).mono ?_
  rintro e w3 ⟨A3, c3, rfl, hO3, hb3⟩
  have HB3 := Lib.hid (HB2.out.trans (hb3.mono HB2.out.size))
  have HO3 := Lib.hid hO3.rd
  clear hb3 hO3
  go_wp2_with fail
  refine (H2.out _ (HR.out.below HB3.out) (HB.out.below HB3.out)).mono ?_
  rintro e w4 ⟨A4, c4, rfl, hO4, hb4⟩
  have HB4 := Lib.hid (HB3.out.trans (hb4.mono HB3.out.size))
  have HO34 := Lib.hid (HO3.out.below hb4)
  have HO4 := Lib.hid hO4.rd
  clear hb4 hO4
  go_wp2_with fail
  have hc := c_rdebts A3 A4 D.length c3 c4 D w4 rfl hlen HO34.out HO4.out
  refine hc.mono ?_
  clear hc
  rintro e w5 ⟨rfl, q, rfl⟩
  go_wp2_with fail
  go_ret
  exact ⟨rfl, below_drewN HB4.out _⟩

theorem l_apays (a : Option Addr) (n c : Nat) (L : List (ByteArray × Int)) (b : Option Addr) (m d : Nat) (gs : List Int) (spent : Int) (w : World) (hn : L.length = n) (hm : n ≤ 9223372036854775807) (hr : Rd w a (cellsI L)) (hs : ∀ p ∈ L, p.1.size ≤ 9223372036854775807 ∧ (Lit.int .i64 p.2).wf = true) (hg : gs.length = m) (hgm : m ≤ 9223372036854775807) (hb : Rd w b (vals .i64 gs)) (hgz : ∀ x ∈ gs, (Lit.int .i64 x).wf = true) (hsp : (Lit.int .i64 spent).wf = true) :
    Calls Try.prog 3 #[.slice a n c, .slice b m d, .int .i64 spent] w fun e w' => e = .returned (.bool true) ∧ Below w.heap.size w w' := by
  have hs' : ∀ p ∈ L, p.1.size ≤ 9223372036854775807 := fun p hp => (hs p hp).1
  cases hf : fewG L m
  · exact l_apays_few a b n c m d L spent w hn hm hr hs' hgm hf
  · have h1 := (fewG_len hf).1
    rw [hn] at h1
    by_cases he : wholeE L gs spent = 0
    · have hmn : m = n := by rw [← hg, ← hn]; exact (whole_facts he).glen
      subst hmn
      exact l_apays_good a b m c d L gs spent w hn h1 hr hs' hg hb hf he
    · exact l_apays_bad a b n c m d L gs spent w hn (by omega) hr hs' hg hgm hb hf he

end Go.Proofs.Ytbcmaaoddnaoiaa
