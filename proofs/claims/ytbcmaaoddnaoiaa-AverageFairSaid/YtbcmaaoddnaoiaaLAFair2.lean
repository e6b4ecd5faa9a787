/-
  The law AverageFair, where it says something: its walk.
-/
import Derived.Test.YtbcmaaoddnaoiaaLAFair
namespace Go.Proofs.Ytbcmaaoddnaoiaa
set_option linter.unusedVariables false
set_option linter.unusedSimpArgs false
open Go.RowKit

set_option maxRecDepth 100000 in
set_option maxHeartbeats 3200000 in
theorem l_afair_bad (a b : Option Addr) (n c m d : Nat) (L : List (ByteArray × Int)) (gs : List Int) (spent : Int) (i k : Nat) (w : World) (hn : L.length = n) (hm : n ≤ 4096) (hr : Rd w a (cellsI L)) (hs : ∀ p ∈ L, p.1.size ≤ 9223372036854775807) (hg : gs.length = m) (hgm : m ≤ 9223372036854775807) (hb : Rd w b (vals .i64 gs)) (hf : fewG L m = true) (hi : i < n) (hk : k < n) (he : wholeE L gs spent ≠ 0) :
    Calls Try.prog 8 #[.slice a n c, .slice b m d, .int .i64 spent, .int .i64 i, .int .i64 k] w fun e w' => e = .returned (.bool true) ∧ Below w.heap.size w w' := by
  have HA := fun w hr => c_fewq a b n c m d L w hn (by omega) hgm hr hs
  rw [hf] at HA
  have HF := Lib.hid HA
  have HW := Lib.hid (fun w hr hb => c_whole_bad a b n c m d L gs spent w hn hm hr hs hg hgm hb he)
  have HR := Lib.hid hr
  have HB := Lib.hid hb
  have f1 : decide ((i : Int) < 0) = false := by simp
  have f2 : decide ((n : Int) ≤ i) = false := by simpa using hi
  have f3 : decide ((k : Int) < 0) = false := by simp
  have f4 : decide ((n : Int) ≤ k) = false := by simpa using hk
  have t1 : (wholeE L gs spent != 0) = true := by simpa using he
  cases hgv : givenB L gs
  · have hE : wholeE L gs spent = 1 := by unfold wholeE; rw [if_pos (.inl hgv)]
    have HV := Lib.hid (fun w hr hb => c_avalues_bad a b n c m d L gs w hn hm hr hs hg hgm hb hgv)
    rw [hE] at HW
    clear hn hr hs hg hb hf HA he t1 hE hgv
    go_enter Try.func8, Try.ntmps8
    go_wp2_with fail
    refine (c_awake43 _).mono ?_
    rintro e w1 ⟨rfl, hb1⟩
    have HR1 := Lib.hid (HR.out.below hb1)
    have HB1 := Lib.hid (HB.out.below hb1)
    go_wp2_with fail
    refine (HF.out _ HR1.out).mono ?_
    rintro e w2 ⟨rfl, rfl⟩
    go_wp2_with fail
    refine (HV.out _ HR1.out HB1.out).mono ?_
    rintro e w2 ⟨rfl, hb2⟩
    have HB2 := Lib.hid (hb1.trans (hb2.mono hb1.size))
    go_wp2_with fail
    refine (HW.out _ (HR.out.below HB2.out) (HB.out.below HB2.out)).mono ?_
    rintro e w3 ⟨rfl, hb3⟩
    have HB3 := Lib.hid (HB2.out.trans (hb3.mono HB2.out.size))
    go_wp2_with fail
    go_ret
    exact ⟨rfl, HB3.out⟩
  · have hmn : m = n := by rw [← hg, ← hn]; exact (given_facts hgv).2.1
    subst hmn
    have HV' := fun w hr hb => c_avalues a b m c d L gs w hn hm hr hs hg hb hgv
    unfold ValuesOk at HV'
    have HV := Lib.hid HV'
    clear hn hr hs hg hb hf HA he hgv HV'
    generalize wholeE L gs spent = E at *
    go_enter Try.func8, Try.ntmps8
    go_wp2_with fail
    refine (c_awake43 _).mono ?_
    rintro e w1 ⟨rfl, hb1⟩
    have HR1 := Lib.hid (HR.out.below hb1)
    have HB1 := Lib.hid (HB.out.below hb1)
    go_wp2_with fail
    refine (HF.out _ HR1.out).mono ?_
    rintro e w2 ⟨rfl, rfl⟩
    go_wp2_with fail
    refine (HV.out _ HR1.out HB1.out).mono ?_
    rintro e w2 ⟨A2, c2, rfl, hO2, hb2⟩
    have HB2 := Lib.hid (hb1.trans (hb2.mono hb1.size))
    go_wp2_with fail
    refine (HW.out _ (HR.out.below HB2.out) (HB.out.below HB2.out)).mono ?_
    rintro e w3 ⟨rfl, hb3⟩
    have HB3 := Lib.hid (HB2.out.trans (hb3.mono HB2.out.size))
    go_wp2_with fail
    go_ret
    exact ⟨rfl, HB3.out⟩

/-- What the law looks at, of one. -/
theorem fair_one {L : List (ByteArray × Int)} {gs : List Int} {spent : Int} {m i : Nat} (hn : L.length = m) (hg : gs.length = m) (he : wholeE L gs spent = 0) (hi : i < m) :
    ∃ x y V p, (subs (valsI L) gs m).getD i 0 = x ∧ (subs gs (partsOf (sumL gs + spent) (valsI L)) m).getD i 0 = y ∧ (valsI L).getD i 0 = V ∧ (partsOf (sumL gs + spent) (valsI L)).getD i 0 = p ∧ x + y = V - p ∧ 0 ≤ V - p ∧ (-4398046511104 ≤ x ∧ x ≤ 4398046511104) ∧ (-4398046511104 ≤ y ∧ y ≤ 4398046511104) ∧ (0 ≤ V ∧ V ≤ 1099511627776) ∧ (0 ≤ p ∧ p ≤ 1099511627777) := by
  have F := whole_facts he
  obtain ⟨h1, h2, h3⟩ := wholeE_zero he
  obtain ⟨g1, g2, g3, g4⟩ := adjE_zero h3
  have hvl : (valsI L).length = m := by rw [valsI_length, hn]
  have hiv : i < (valsI L).length := by omega
  refine ⟨_, _, _, _, rfl, rfl, rfl, rfl, ?_⟩
  rw [subs_get _ _ _ _ hiv, if_pos hi, subs_get _ _ _ _ (by omega), if_pos hi]
  have hp := F.pb i
  have hgb := F.gb i
  have hle := parts_le (sumL gs + spent) (valsI L) g2 (fun x hx => (F.vb x hx).1) g3 i hiv
  have hv := F.vb _ (List.getElem_mem hiv)
  have ev : (valsI L).getD i 0 = (valsI L)[i] := by rw [List.getD_eq_getElem?_getD, List.getElem?_eq_getElem hiv]; rfl
  rw [ev]
  omega
theorem fair_two {L : List (ByteArray × Int)} {gs : List Int} {spent : Int} {m i k : Nat} (hn : L.length = m) (he : wholeE L gs spent = 0) (hi : i < m) (hk : k < m) (h : (valsI L).getD i 0 = (valsI L).getD k 0) :
    (partsOf (sumL gs + spent) (valsI L)).getD i 0 - (partsOf (sumL gs + spent) (valsI L)).getD k 0 ≤ 1 ∧ (partsOf (sumL gs + spent) (valsI L)).getD k 0 - (partsOf (sumL gs + spent) (valsI L)).getD i 0 ≤ 1 := by
  have F := whole_facts he
  obtain ⟨h1, h2, h3⟩ := wholeE_zero he
  obtain ⟨g1, g2, g3, g4⟩ := adjE_zero h3
  have hvl : (valsI L).length = m := by rw [valsI_length, hn]
  have hiv : i < (valsI L).length := by omega
  have hkv : k < (valsI L).length := by omega
  rw [List.getD_eq_getElem?_getD, List.getElem?_eq_getElem hiv, List.getD_eq_getElem?_getD, List.getElem?_eq_getElem hkv] at h
  exact parts_same (sumL gs + spent) (valsI L) g2 (fun x hx => (F.vb x hx).1) g3 i k hiv hkv (by simpa using h)

set_option maxRecDepth 100000 in
set_option maxHeartbeats 6400000 in
theorem l_afair_good (a b : Option Addr) (c m d : Nat) (L : List (ByteArray × Int)) (gs : List Int) (spent : Int) (i k : Nat) (w : World) (hn : L.length = m) (hm : m ≤ 4096) (hr : Rd w a (cellsI L)) (hs : ∀ p ∈ L, p.1.size ≤ 9223372036854775807) (hg : gs.length = m) (hb : Rd w b (vals .i64 gs)) (hf : fewG L m = true) (hi : i < m) (hk : k < m) (he : wholeE L gs spent = 0) :
    Calls Try.prog 8 #[.slice a m c, .slice b m d, .int .i64 spent, .int .i64 i, .int .i64 k] w fun e w' => e = .returned (.bool true) ∧ Below w.heap.size w w' := by
  have HA := fun w hr => c_fewq a b m c m d L w hn (by omega) (by omega) hr hs
  rw [hf] at HA
  have HF := Lib.hid HA
  have hgv := (wholeE_zero he).1
  have HV' := fun w hr hb => c_avalues a b m c d L gs w hn hm hr hs hg hb hgv
  unfold ValuesOk at HV'
  have HV := Lib.hid HV'
  have HW' := fun w hr hb => c_whole a b m c m d L gs spent w hn hm hr hs hg (by omega) hb he
  unfold WholeOk at HW'
  have HW := Lib.hid HW'
  have HR := Lib.hid hr
  have HB := Lib.hid hb
  have HN := Lib.hid hn
  have f1 : decide ((i : Int) < 0) = false := by simp
  have f2 : decide ((m : Int) ≤ i) = false := by simpa using hi
  have f3 : decide ((k : Int) < 0) = false := by simp
  have f4 : decide ((m : Int) ≤ k) = false := by simpa using hk
  obtain ⟨x1, y1, V1, p1, ex1, ey1, eV1, ep1, r1, r2, ⟨r3, r4⟩, ⟨r5, r6⟩, ⟨r7, r8⟩, ⟨r9, r10⟩⟩ := fair_one hn hg he hi
  obtain ⟨x2, y2, V2, p2, ex2, ey2, eV2, ep2, s1, s2, ⟨s3, s4⟩, ⟨s5, s6⟩, ⟨s7, s8⟩, ⟨s9, s10⟩⟩ := fair_one hn hg he hk
  have htwo : V1 = V2 → p1 - p2 ≤ 1 ∧ p2 - p1 ≤ 1 := fun h => by
    have := fair_two hn he hi hk (by rw [eV1, eV2]; exact h)
    rw [ep1, ep2] at this
    exact this
  have hpl : (partsOf (sumL gs + spent) (valsI L)).length = m := by rw [partsOf_length, valsI_length, hn]
  have hxl : (subs (valsI L) gs m).length = m := by rw [subs_length, valsI_length, hn]
  have hyl : (subs gs (partsOf (sumL gs + spent) (valsI L)) m).length = m := by rw [subs_length, hg]
  have HPl := Lib.hid hpl
  have HXl := Lib.hid hxl
  have HYl := Lib.hid hyl
  have HX := Lib.hid (And.intro ex1 ex2)
  have HY := Lib.hid (And.intro ey1 ey2)
  have HVV := Lib.hid (And.intro eV1 eV2)
  have HP := Lib.hid (And.intro ep1 ep2)
  clear hn hr hs hg hb hf HA he hgv HV' HW' ex1 ex2 ey1 ey2 eV1 eV2 ep1 ep2 hpl hxl hyl
  generalize subs (valsI L) gs m = X at *
  generalize subs gs (partsOf (sumL gs + spent) (valsI L)) m = Y at *
  generalize partsOf (sumL gs + spent) (valsI L) = ps at *
  go_enter Try.func8, Try.ntmps8
  go_wp2_with fail
  refine (c_awake43 _).mono ?_
  rintro e w1 ⟨rfl, hb1⟩
  have HR1 := Lib.hid (HR.out.below hb1)
  have HB1 := Lib.hid (HB.out.below hb1)
  go_wp2_with fail
  refine (HF.out _ HR1.out).mono ?_
  rintro e w2 ⟨rfl, rfl⟩
  go_wp2_with fail
  refine (HV.out _ HR1.out HB1.out).mono ?_
  rintro e w2 ⟨A2, c2, rfl, hO2, hb2⟩
  have HB2 := Lib.hid (hb1.trans (hb2.mono hb1.size))
  have HO2 := Lib.hid hO2
  clear hb2 hO2
  go_wp2_with fail
  refine (HW.out _ (HR.out.below HB2.out) (HB.out.below HB2.out)).mono ?_
  rintro e w3 ⟨pb, pt, A3, c3, rfl, hP3, hO3, hb3⟩
  have HB3 := Lib.hid (HB2.out.trans (hb3.mono HB2.out.size))
  have HX3 := Lib.hid (HO2.out.keep hb3).rd
  have HY3 := Lib.hid hO3.rd
  have HP3 := Lib.hid hP3
  have HR3 := Lib.hid (HR.out.below HB3.out)
  clear hb1 hb3 hP3 hO3 HO2 HB2 HR1 HB1 HV HW HF
  have hiL : i < L.length := by rw [HN.out]; exact hi
  have hkL : k < L.length := by rw [HN.out]; exact hk
  have hiX : i < X.length := by rw [HXl.out]; exact hi
  have hkX : k < X.length := by rw [HXl.out]; exact hk
  have hiY : i < Y.length := by rw [HYl.out]; exact hi
  have hkY : k < Y.length := by rw [HYl.out]; exact hk
  have hip : i < ps.length := by rw [HPl.out]; exact hi
  have hkp : k < ps.length := by rw [HPl.out]; exact hk
  obtain ⟨b5, o5, rfl, hb5, c5, c6⟩ := intr_at HR3.out i hiL
  obtain ⟨b5', o5', e5, _, c7, c8⟩ := intr_at HR3.out k hkL
  injection e5 with e5
  injection e5 with e5 e5'
  subst e5 e5'
  rw [← valsI_getD L i hiL, HVV.out.1] at c6
  rw [← valsI_getD L k hkL, HVV.out.2] at c8
  obtain ⟨b6, o6, rfl, hb6, hall6, d1⟩ := HX3.out.at i (by simpa using hiX)
  have d2 := hall6 k (.int .i64 x2) (by simp [vals, hkX, ← HX.out.2])
  clear hall6
  rw [vals_getD X i hiX, HX.out.1] at d1
  obtain ⟨b7, o7, rfl, hb7, hall7, d3⟩ := HY3.out.at i (by simpa using hiY)
  have d4 := hall7 k (.int .i64 y2) (by simp [vals, hkY, ← HY.out.2])
  clear hall7
  rw [vals_getD Y i hiY, HY.out.1] at d3
  have d5 := HP3.out.cell i (rowI_get .i64 ps i hip)
  have d6 := HP3.out.cell k (rowI_get .i64 ps k hkp)
  rw [HP.out.1] at d5
  rw [HP.out.2] at d6
  obtain ⟨z1, hz1⟩ : ∃ z, x1 + y1 = z := ⟨_, rfl⟩
  obtain ⟨z2, hz2⟩ : ∃ z, x2 + y2 = z := ⟨_, rfl⟩
  have w1' : IntKind.i64.wrap (x1 + y1) = z1 := (IntWalk.i64_in _ (by omega)).trans hz1
  have w2' : IntKind.i64.wrap (x2 + y2) = z2 := (IntWalk.i64_in _ (by omega)).trans hz2
  have w3' : IntKind.i64.wrap (V1 - p1) = z1 := (IntWalk.i64_in _ (by omega)).trans (by omega)
  have w4' : IntKind.i64.wrap (V2 - p2) = z2 := (IntWalk.i64_in _ (by omega)).trans (by omega)
  have w5' : IntKind.i64.wrap (z1 - z2) = z1 - z2 := IntWalk.i64_in _ (by omega)
  have w6' : IntKind.i64.wrap (z2 - z1) = z2 - z1 := IntWalk.i64_in _ (by omega)
  have t3 : decide (z1 < 0) = false := by simp; omega
  have t4 : decide (z2 < 0) = false := by simp; omega
  by_cases hVe : V1 = V2
  · have h2 := htwo hVe
    have t6 : decide (z1 - z2 ≤ 1) = true := by simp; omega
    have t7 : decide (z2 - z1 ≤ 1) = true := by simp; omega
    have t5 : (V1 != V2) = false := by simpa using hVe
    clear hz1 hz2 r1 s1 r2 s2 htwo h2 hVe
    go_wp2_with fail
    go_quiet (fail)
    go_wp2_with fail
    go_quiet (fail)
    go_wp2_with fail
    go_quiet (fail)
    go_wp2_with fail
    go_ret
    exact ⟨rfl, below_drewN (below_drewN (below_drewN HB3.out _) _) _⟩
  · have t5 : (V1 != V2) = true := by simpa using hVe
    clear hz1 hz2 r1 s1 r2 s2 htwo hVe
    go_wp2_with fail
    go_quiet (fail)
    go_wp2_with fail
    go_quiet (fail)
    go_wp2_with fail
    go_quiet (fail)
    go_wp2_with fail
    go_ret
    exact ⟨rfl, below_drewN (below_drewN (below_drewN HB3.out _) _) _⟩

theorem l_afair (a : Option Addr) (n c : Nat) (L : List (ByteArray × Int)) (b : Option Addr) (m d : Nat) (gs : List Int) (spent i k : Int) (w : World) (hn : L.length = n) (hm : n ≤ 9223372036854775807) (hr : Rd w a (cellsI L)) (hs : ∀ p ∈ L, p.1.size ≤ 9223372036854775807 ∧ (Lit.int .i64 p.2).wf = true) (hg : gs.length = m) (hgm : m ≤ 9223372036854775807) (hb : Rd w b (vals .i64 gs)) (hgz : ∀ x ∈ gs, (Lit.int .i64 x).wf = true) (hsp : (Lit.int .i64 spent).wf = true) (hiw : (Lit.int .i64 i).wf = true) (hkw : (Lit.int .i64 k).wf = true) :
    Calls Try.prog 8 #[.slice a n c, .slice b m d, .int .i64 spent, .int .i64 i, .int .i64 k] w fun e w' => e = .returned (.bool true) ∧ Below w.heap.size w w' := by
  have hs' : ∀ p ∈ L, p.1.size ≤ 9223372036854775807 := fun p hp => (hs p hp).1
  by_cases h : fairOut L m i k
  · exact l_afair_out a b n c m d L spent i k w hn hm hr hs' hgm h
  · unfold fairOut at h
    simp only [not_or, Bool.not_eq_false, Int.not_lt, Int.not_le] at h
    obtain ⟨h1, h2, h3, h4, h5⟩ := h
    obtain ⟨i, rfl⟩ := Int.eq_ofNat_of_zero_le h2
    obtain ⟨k, rfl⟩ := Int.eq_ofNat_of_zero_le h4
    have hm2 := (fewG_len h1).1
    rw [hn] at h3 h5 hm2
    by_cases he : wholeE L gs spent = 0
    · have hmn : m = n := by rw [← hg, ← hn]; exact (whole_facts he).glen
      subst hmn
      exact l_afair_good a b c m d L gs spent i k w hn (by omega) hr hs' hg hb h1 (by omega) (by omega) he
    · exact l_afair_bad a b n c m d L gs spent i k w hn (by omega) hr hs' hg hgm hb h1 (by omega) (by omega) he

end Go.Proofs.Ytbcmaaoddnaoiaa
