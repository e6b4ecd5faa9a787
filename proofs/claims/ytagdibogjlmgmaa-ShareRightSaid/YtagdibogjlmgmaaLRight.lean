/-
  The law ShareRight: its walk.
-/
import Derived.Test.YtagdibogjlmgmaaAwake4
import Derived.Test.YtagdibogjlmgmaaRight
import Derived.Test.YtagdibogjlmgmaaRSplit
import Derived.Test.YtagdibogjlmgmaaRError
import Derived.Test.YtagdibogjlmgmaaSplitLaw
import Derived.Test.YtagdibogjlmgmaaWf
namespace Go.Proofs.Ytagdibogjlmgmaa
set_option linter.unusedVariables false
set_option linter.unusedSimpArgs false
open Go.RowKit

set_option maxHeartbeats 800000 in
theorem l_right_many (T : Int) (a b : Option Addr) (n c m d : Nat) (t s : Int) (w : World) (hn : n ≤ 9223372036854775807) (hm : m ≤ 9223372036854775807) (h : 40 < n ∨ (n ≤ 40 ∧ 40 < m)) :
    Calls Try.prog 12 #[.int .i64 T, .slice a n c, .slice b m d, .int .u8 t, .int .i8 s] w fun e w' => e = .returned (.bool true) ∧ Below w.heap.size w w' := by
  rcases h with h | ⟨h, h2⟩
  all_goals
    go_enter Try.func12, Try.ntmps12
    go_wp2_with fail
    refine (c_awake04 _).mono ?_
    rintro e w1 ⟨rfl, hb1⟩
    go_wp2_with fail
    refine (c_awake04 _).mono ?_
    rintro e w2 ⟨rfl, hb2⟩
    go_wp2_with fail
    go_ret
    exact ⟨rfl, hb1.trans (hb2.mono hb1.size)⟩

set_option maxHeartbeats 800000 in
theorem l_right_bad (T : Int) (a b : Option Addr) (n c m d : Nat) (zs : List Int) (t s : Int) (w : World) (hn : zs.length = n) (hr : Rd w a (vals .i64 zs)) (h : n ≤ 40) (h2 : m ≤ 40) (he : errS T zs ≠ 0) :
    Calls Try.prog 12 #[.int .i64 T, .slice a n c, .slice b m d, .int .u8 t, .int .i8 s] w fun e w' => e = .returned (.bool true) ∧ Below w.heap.size w w' := by
  have HR := Lib.hid hr
  have HN := Lib.hid hn
  have HE := Lib.hid he
  clear hr hn he
  go_enter Try.func12, Try.ntmps12
  go_wp2_with fail
  refine (c_awake04 _).mono ?_
  rintro e w1 ⟨rfl, hb1⟩
  have hR1 := Lib.hid (HR.out.below hb1)
  have hE := Lib.hid (c_rerror T a n c zs w1 HN.out (by omega) hR1.out)
  have k1 := Lib.hid (c_right04_bad T b a m d n c zs w1 HN.out (by omega) hR1.out HE.out)
  have k2 := Lib.hid (c_right04_bad T none a 0 0 n c zs w1 HN.out (by omega) hR1.out HE.out)
  have t1 : (errS T zs != 0) = true := by simpa using HE.out
  clear HE
  generalize errS T zs = E at *
  go_wp2_with fail
  refine hE.out.mono ?_
  rintro e w4 ⟨rfl, rfl⟩
  go_wp2_with fail
  refine k1.out.mono ?_
  rintro e w4 ⟨rfl, rfl⟩
  go_wp2_with fail
  refine k2.out.mono ?_
  rintro e w4 ⟨rfl, rfl⟩
  go_wp2_with fail
  go_ret
  exact ⟨rfl, hb1⟩

theorem set_same (l : List Int) (p : Nat) (v s : Int) (hp : p < l.length) (hv : l.getD p 0 = v) : decide (l.set p (v + s) = l) = decide (s = 0) := by
  apply decide_eq_decide.2
  constructor
  · intro h
    have : (l.set p (v + s)).getD p 0 = v := by rw [h]; exact hv
    simp [hp] at this
    omega
  · rintro rfl
    subst hv
    apply List.ext_getElem
    · simp
    · intro i h1 h2
      simp only [List.getElem_set]
      split
      · subst_vars; simp [hp]
      · rfl

set_option maxRecDepth 100000 in
set_option maxHeartbeats 1600000 in
theorem l_right_good (T : Int) (a b : Option Addr) (n c m d : Nat) (zs ps : List Int) (t s : Int) (w : World) (hn : zs.length = n) (hr : Rd w a (vals .i64 zs)) (hm : ps.length = m) (hp : Rd w b (vals .i64 ps)) (h : n ≤ 40) (h2 : m ≤ 40) (he : errS T zs = 0)
    (t0 : 0 ≤ t) (t1 : t ≤ 255) (s0 : -128 ≤ s) (s1 : s ≤ 127) :
    Calls Try.prog 12 #[.int .i64 T, .slice a n c, .slice b m d, .int .u8 t, .int .i8 s] w fun e w' => e = .returned (.bool true) ∧ Below w.heap.size w w' := by
  obtain ⟨hT, hT2, h3, h4, h5, h6⟩ := errS_zero he
  have hn0 : 0 < n := by omega
  have HR := Lib.hid hr
  have HP := Lib.hid hp
  have HN := Lib.hid hn
  have HM := Lib.hid hm
  have HE := Lib.hid he
  have hPB : ∀ i, i < zs.length → 0 ≤ (partsOf T zs).getD i 0 ∧ (partsOf T zs).getD i 0 ≤ 1099511627777 := by
    intro i hi
    have p0 := parts_nonneg T zs hT (fun x hx => (h5 x hx).1) ((partsOf T zs).getD i 0) (by
      have e : (partsOf T zs).getD i 0 = (partsOf T zs)[i]'(by simpa using hi) := by simp [hi]
      rw [e]; exact List.getElem_mem _)
    refine ⟨p0, ?_⟩
    rw [parts_get T zs i hi]
    have hS0 := sumL_nonneg zs fun x hx => (h5 x hx).1
    by_cases hS : sumL zs = 0
    · rw [hS]; simp; split <;> omega
    · have := q_bd0 T (sumL zs) zs[i] hT (by omega) (h5 _ (List.getElem_mem hi)).1 (mem_le_sum zs (fun x hx => (h5 x hx).1) _ (List.getElem_mem hi))
      split <;> omega
  have m0 := Int.emod_nonneg t (show (n : Int) ≠ 0 by omega)
  have m1 := Int.emod_lt_of_pos t (show (0 : Int) < n by omega)
  obtain ⟨p, hpe⟩ := Int.eq_ofNat_of_zero_le m0
  rw [hpe] at m1
  have hpn : p < n := by omega
  have hv := hPB p (by omega)
  have hLP : (partsOf T zs).length = n := by rw [partsOf_length, hn]
  have HLP := Lib.hid hLP
  have HSame := Lib.hid (set_same (partsOf T zs) p ((partsOf T zs).getD p 0) s (by omega) rfl)
  obtain ⟨v0, v1⟩ := hv
  have HPE := Lib.hid hpe
  clear hr hp hn hm he h5 h6 hPB hpe hLP m0 h3 h4
  go_enter Try.func12, Try.ntmps12
  go_wp2_with fail
  refine (c_awake04 _).mono ?_
  rintro e w1 ⟨rfl, hb1⟩
  have hR1 := Lib.hid (HR.out.below hb1)
  have hP1 := Lib.hid (HP.out.below hb1)
  have hz1 := hb1.size
  go_wp2_with fail
  refine (c_rerror T a n c zs w1 HN.out (by omega) hR1.out).mono ?_
  rintro e w4 ⟨rfl, rfl⟩
  rw [HE.out]
  go_wp2_with fail
  refine (c_rsplit T a n c zs _ HN.out hR1.out HE.out).mono ?_
  rintro e w2 ⟨b2, t2, rfl, hl2, hb2, hP2⟩
  have hR2 := Lib.hid (hR1.out.below hb2)
  have hQ2 := Lib.hid (hP1.out.below hb2)
  have hB2 := Lib.hid (hb1.trans (hb2.mono hz1))
  have hz2 := hb2.size
  have hP2 := Lib.hid hP2
  clear hb1 hb2
  go_wp2_with fail
  refine (c_right04 T _ a n n n c (partsOf T zs) zs w2 HLP.out (by omega) (by exact Rd.blk' hP2.out) HN.out hR2.out HE.out).mono ?_
  rw [show decide (partsOf T zs = partsOf T zs) = true by simp]
  rintro e w3 ⟨rfl, hb3⟩
  have hR3 := Lib.hid (hR2.out.below hb3)
  have hQ3 := Lib.hid (hQ2.out.below hb3)
  have hP3 := Lib.hid (hP2.out.below hb3 hP2.out.lt)
  have hz3 := hb3.size
  have hB3 := Lib.hid (hB2.out.trans (hb3.mono (by omega)))
  clear hb3 hB2 hR2 hQ2 hP2
  go_wp2_with fail
  refine (c_right04 T b a m d n c ps zs w3 HM.out (by omega) hQ3.out HN.out hR3.out HE.out).mono ?_
  rintro e w4 ⟨rfl, hb4⟩
  have hR4 := Lib.hid (hR3.out.below hb4)
  have hQ4 := Lib.hid (hQ3.out.below hb4)
  have hP4 := Lib.hid (hP3.out.below hb4 hP3.out.lt)
  have hz4 := hb4.size
  have hB4 := Lib.hid (hB3.out.trans (hb4.mono (by omega)))
  clear hb4 hB3 hR3 hQ3 hP3
  go_wp2_with fail
  refine (c_same b _ m d n n ps (partsOf T zs) w4 HM.out HLP.out (by omega) (by omega) hQ4.out (by exact Rd.blk hP4.out)).mono ?_
  rintro e w5 ⟨rfl, q, rfl⟩
  have hP5 := Lib.hid (hP4.out.drewN q)
  have hR5 := Lib.hid (hR4.out.drewN q)
  have hB5 := Lib.hid (below_drewN hB4.out q)
  have hz5 : w4.heap.size = (w4.drewN q).heap.size := rfl
  generalize w4.drewN q = w5 at *
  have pc := hP5.out.cell p (rowI_get .i64 (partsOf T zs) p (by rw [HLP.out]; exact hpn))
  have pf := hP5.out.free p
  have hpe := HPE.out
  generalize hvv : (partsOf T zs).getD p 0 = v at *
  clear hvv
  generalize decide (ps = partsOf T zs) = D
  have hz5' : w4.heap.size ≤ w5.heap.size := by omega
  clear hz5
  have hP6 := Lib.hid (hP5.out.set p (.int .i64 (v + s)))
  have hb6 := Lib.hid (hB5.out.setCell (p := ⟨b2, p, none⟩) (by show w.heap.size ≤ b2; omega) (.int .i64 (v + s)))
  have hR6 : Hid (Rd (w5.setCell ⟨b2, p, none⟩ (.int .i64 (v + s))) a (vals .i64 zs)) := Lib.hid (HR.out.below hb6.out)
  have hz6 : Hid (w5.heap.size ≤ (w5.setCell ⟨b2, p, none⟩ (.int .i64 (v + s))).heap.size) := Lib.hid (by simp [World.setCell])
  rw [rowI_set] at hP6
  generalize hL : (partsOf T zs).set p (v + s) = L at *
  have HL := Lib.hid (show L.length = n by rw [← hL, List.length_set]; exact HLP.out)
  clear hL
  cases D
  all_goals
    go_wp2_with fail
    refine (c_right04 T _ a n n n c L zs _ HL.out (by omega) (by exact Rd.blk' hP6.out) HN.out hR6.out HE.out).mono ?_
    rintro e w7 ⟨rfl, hb7⟩
    rw [HSame.out]
    have hb8 := Lib.hid (hb6.out.trans (hb7.mono hb6.out.size))
    by_cases hs : s = 0
    · subst hs
      go_wp2_with fail
      go_ret
      exact ⟨rfl, hb8.out⟩
    · have ts : (s == 0) = false := by simpa using hs
      have ts2 : decide (s = 0) = false := by simpa using hs
      rw [ts2]
      go_wp2_with fail
      go_ret
      exact ⟨rfl, hb8.out⟩

theorem l_right (T : Int) (a : Option Addr) (n c : Nat) (zs : List Int) (b : Option Addr) (m d : Nat) (ps : List Int) (t s : Int) (w : World) (hT : (Lit.int .i64 T).wf = true)
    (hn : zs.length = n) (hm : n ≤ 9223372036854775807) (hr : Rd w a (vals .i64 zs)) (hz : ∀ x ∈ zs, (Lit.int .i64 x).wf = true)
    (hpn : ps.length = m) (hpm : m ≤ 9223372036854775807) (hp : Rd w b (vals .i64 ps)) (hpz : ∀ x ∈ ps, (Lit.int .i64 x).wf = true) (ht : (Lit.int .u8 t).wf = true) (hs : (Lit.int .i8 s).wf = true) :
    Calls Try.prog 12 #[.int .i64 T, .slice a n c, .slice b m d, .int .u8 t, .int .i8 s] w fun e w' => e = .returned (.bool true) ∧ Below w.heap.size w w' := by
  obtain ⟨t0, t1⟩ := bnd_u8 ht
  obtain ⟨s0, s1⟩ := bnd_i8 hs
  by_cases h : n ≤ 40
  · by_cases h2 : m ≤ 40
    · by_cases he : errS T zs = 0
      · exact l_right_good T a b n c m d zs ps t s w hn hr hpn hp h h2 he t0 t1 s0 s1
      · exact l_right_bad T a b n c m d zs t s w hn hr h h2 he
    · exact l_right_many T a b n c m d t s w hm hpm (.inr ⟨h, by omega⟩)
  · exact l_right_many T a b n c m d t s w hm hpm (.inl (by omega))

end Go.Proofs.Ytagdibogjlmgmaa
