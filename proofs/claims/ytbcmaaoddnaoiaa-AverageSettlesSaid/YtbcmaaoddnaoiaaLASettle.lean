/-
  The law AverageSettles: its walk.
-/
import Derived.Test.YtbcmaaoddnaoiaaLASums
import Derived.Test.YtbcmaaoddnaoiaaSettleNum
import Derived.Test.YtbcmaaoddnaoiaaTally
import Derived.StillTailTactics
namespace Go.Proofs.Ytbcmaaoddnaoiaa
set_option linter.unusedVariables false
set_option linter.unusedSimpArgs false
open Go.RowKit

theorem zero_i64 (w : World) : (zeroValue 2).run Try.prog w = .ok (.int .i64 0) w := by kernel_rfl
theorem poss_le (G : List Int) (B : Int) (h : ∀ i, G.getD i 0 ≤ B) (hB : 0 ≤ B) : poss G ≤ B * G.length := by
  induction G with
  | nil => simp [poss]
  | cons x r ih =>
    have h1 := h 0
    have h2 := ih fun i => h (i + 1)
    simp only [List.getD_cons_zero] at h1
    simp only [poss, List.length_cons]
    rw [Int.natCast_add, Int.mul_add]
    omega
/-- What is got, net. -/
def netS (D : List (ByteArray × ByteArray × Int)) (s : ByteArray) : Int := toS D s - fromS D s
theorem netS_succ (D : List (ByteArray × ByteArray × Int)) (k : Nat) (h : k < D.length) (hne : D[k].1 ≠ D[k].2.1) (s : ByteArray) :
    (if s = D[k].2.1 then netS (D.take k) D[k].2.1 + D[k].2.2 else if s = D[k].1 then netS (D.take k) D[k].1 - D[k].2.2 else netS (D.take k) s) = netS (D.take (k + 1)) s := by
  unfold netS
  rw [List.take_succ_eq_append_getElem h, toS_append, fromS_append]
  simp only [toS, fromS]
  by_cases h1 : s = D[k].2.1
  · subst h1
    rw [if_pos rfl, if_pos rfl, if_neg hne]
    omega
  · rw [if_neg h1, if_neg (c := D[k].2.1 = s) fun h => h1 h.symm]
    by_cases h2 : s = D[k].1
    · subst h2
      rw [if_pos rfl, if_pos rfl]
      omega
    · rw [if_neg h2, if_neg (c := D[k].1 = s) fun h => h2 h.symm]
      omega

set_option maxRecDepth 100000 in
set_option maxHeartbeats 1600000 in
theorem l_asettles_few (a b : Option Addr) (n c m d : Nat) (L : List (ByteArray × Int)) (gs : List Int) (spent : Int) (w : World) (hn : L.length = n) (hm : n ≤ 9223372036854775807) (hr : Rd w a (cellsI L)) (hs : ∀ p ∈ L, p.1.size ≤ 9223372036854775807) (hgm : m ≤ 9223372036854775807) (hf : fewG L m = false) :
    Calls Try.prog 5 #[.slice a n c, .slice b m d, .int .i64 spent] w fun e w' => e = .returned (.bool true) ∧ Below w.heap.size w w' := by
  have HF := Lib.hid (fun w hr => c_few a b n c m d L w hn hm hgm hr hs)
  rw [hf] at HF
  have HR := Lib.hid hr
  clear hn hr hs hf
  go_enter Try.func5, Try.ntmps5
  go_wp2_with fail
  refine (c_awake43 _).mono ?_
  rintro e w1 ⟨rfl, hb1⟩
  go_wp2_with fail
  refine (HF.out _ (HR.out.below hb1)).mono ?_
  rintro e w2 ⟨rfl, hb2⟩
  have HB := Lib.hid (hb1.trans (hb2.mono hb1.size))
  clear hb1 hb2
  go_wp2_with fail
  go_ret
  exact ⟨rfl, HB.out⟩

set_option maxRecDepth 100000 in
set_option maxHeartbeats 1600000 in
theorem l_asettles_bad (a b : Option Addr) (n c m d : Nat) (L : List (ByteArray × Int)) (gs : List Int) (spent : Int) (w : World) (hn : L.length = n) (hm : n ≤ 4096) (hr : Rd w a (cellsI L)) (hs : ∀ p ∈ L, p.1.size ≤ 9223372036854775807) (hg : gs.length = m) (hgm : m ≤ 9223372036854775807) (hb : Rd w b (vals .i64 gs)) (hf : fewG L m = true) (he : wholeE L gs spent ≠ 0) :
    Calls Try.prog 5 #[.slice a n c, .slice b m d, .int .i64 spent] w fun e w' => e = .returned (.bool true) ∧ Below w.heap.size w w' := by
  have HF := Lib.hid (fun w hr => c_few a b n c m d L w hn (by omega) hgm hr hs)
  rw [hf] at HF
  have HP := Lib.hid (fun w hr hb => c_pays_bad a b n c m d L gs spent w hn hm hr hs hg hgm hb he)
  have HW := Lib.hid (fun w hr hb => c_whole_bad a b n c m d L gs spent w hn hm hr hs hg hgm hb he)
  have t1 : (wholeE L gs spent != 0) = true := by simpa using he
  have HR := Lib.hid hr
  have HB := Lib.hid hb
  clear hn hr hs hf hg hb he
  generalize wholeE L gs spent = E at *
  go_enter Try.func5, Try.ntmps5
  go_wp2_with fail
  refine (c_awake43 _).mono ?_
  rintro e w1 ⟨rfl, hb1⟩
  go_wp2_with fail
  refine (HF.out _ (HR.out.below hb1)).mono ?_
  rintro e w2 ⟨rfl, hb2⟩
  have HB2 := Lib.hid (hb1.trans (hb2.mono hb1.size))
  clear hb1 hb2
  go_wp2_with fail
  refine (HP.out _ (HR.out.below HB2.out) (HB.out.below HB2.out)).mono ?_
  rintro e w3 ⟨rfl, hb3⟩
  have HB3 := Lib.hid (HB2.out.trans (hb3.mono HB2.out.size))
  clear hb3
  go_wp2_with fail
  refine (HW.out _ (HR.out.below HB3.out) (HB.out.below HB3.out)).mono ?_
  rintro e w4 ⟨rfl, hb4⟩
  have HB4 := Lib.hid (HB3.out.trans (hb4.mono HB3.out.size))
  clear hb4
  go_wp2_with fail
  go_ret
  exact ⟨rfl, HB4.out⟩

set_option maxRecDepth 100000 in
set_option maxHeartbeats 6400000 in
theorem l_asettles_good (a b : Option Addr) (m c d : Nat) (L : List (ByteArray × Int)) (gs : List Int) (spent : Int) (w : World) (hn : L.length = m) (hm : m ≤ 31) (hr : Rd w a (cellsI L)) (hs : ∀ p ∈ L, p.1.size ≤ 9223372036854775807) (hg : gs.length = m) (hb : Rd w b (vals .i64 gs)) (hf : fewG L m = true) (he : wholeE L gs spent = 0) :
    Calls Try.prog 5 #[.slice a m c, .slice b m d, .int .i64 spent] w fun e w' => e = .returned (.bool true) ∧ Below w.heap.size w w' := by
  have HF := fun w hr => c_few a b m c m d L w hn (by omega) (by omega) hr hs
  rw [hf] at HF
  have HF := Lib.hid HF
  have H1 := fun w hr hb => c_pays a b m c m d L gs spent w hn (by omega) hr hs hg (by omega) hb he
  have H2 := fun w hr hb => c_whole a b m c m d L gs spent w hn (by omega) hr hs hg (by omega) hb he
  have F := whole_facts he
  obtain ⟨f1, f2, f3, f4⟩ := gets_facts F
  obtain ⟨s0, s1⟩ := F.sp
  have hmay : mayB L = true := (given_facts (wholeE_zero he).1).1
  have hnl : (namesB L).length = (getsOf L gs spent).length := by rw [f1]; simp [namesB]
  have hset := settled (spent := spent) (may_names hmay) hnl s0 f3
  have hdb : debtsOf L gs spent = (payS (namesB L) (getsOf L gs spent) spent (getsOf L gs spent).length).2 := by unfold debtsOf; rw [f1]
  rw [← hdb] at hset
  have hGeq : getsOf L gs spent = subs gs (partsOf (sumL gs + spent) (valsI L)) m := by unfold getsOf; rw [hn]
  have hpo := poss_le (getsOf L gs spent) 1099511627776 (fun i => (f4 i).2) (by omega)
  have hpo0 := poss_nonneg (getsOf L gs spent)
  unfold PaysOk at H1
  unfold WholeOk at H2
  rw [← hGeq] at H2
  have H1 := Lib.hid H1
  have H2 := Lib.hid H2
  have hnm : ∀ i (hi : i < L.length), (namesB L).getD i ⟨#[]⟩ = L[i].1 := fun i hi => by simp [namesB, hi]
  have HNm := Lib.hid hnm
  have HSz := Lib.hid hs
  have HR := Lib.hid hr
  have HB := Lib.hid hb
  have HN := Lib.hid hn
  rw [hn] at f1
  rw [f1] at hpo
  have HGl := Lib.hid f1
  have hTot : totS (debtsOf L gs spent) ≤ 36283883716608 := by rw [hset.tot]; omega
  have hDl : (debtsOf L gs spent).length ≤ m + 1 := by have := hset.len; omega
  have HSet := Lib.hid hset
  have HTot := Lib.hid hTot
  have HGb := Lib.hid f4
  clear hn hr hs hf hg hb he F f1 f2 f3 f4 hmay hnl hset hdb hGeq hpo hpo0 hnm hTot
  generalize debtsOf L gs spent = D at *
  generalize getsOf L gs spent = G at *
  generalize partsOf (sumL gs + spent) (valsI L) = ps at *
  generalize hDn : D.length = r at *
  have HDn := Lib.hid hDn
  clear hDn
  have hmm := @run_makeMap Try.prog
  go_enter Try.func5, Try.ntmps5
  go_wp2_with fail
  refine (c_awake43 _).mono ?_
  rintro e w1 ⟨rfl, hb1⟩
  go_wp2_with fail
  refine (HF.out _ (HR.out.below hb1)).mono ?_
  rintro e w2 ⟨rfl, hb2⟩
  have HB2 := Lib.hid (hb1.trans (hb2.mono hb1.size))
  clear hb1 hb2
  go_wp2_with fail
  refine (H1.out _ (HR.out.below HB2.out) (HB.out.below HB2.out)).mono ?_
  rintro e w3 ⟨A3, c3, rfl, hO3, hb3⟩
  have HB3 := Lib.hid (HB2.out.trans (hb3.mono HB2.out.size))
  have HO3 := Lib.hid hO3.rd
  clear hb3 hO3
  go_wp2_with fail
  refine (H2.out _ (HR.out.below HB3.out) (HB.out.below HB3.out)).mono ?_
  rintro e w4 ⟨p4, t4, A4, c4, rfl, hP4, hO4, hb4⟩
  have HB4 := Lib.hid (HB3.out.trans (hb4.mono HB3.out.size))
  have HO4 := Lib.hid (HO3.out.below hb4)
  have HG4 := Lib.hid hO4.rd
  have HR4 := Lib.hid (HR.out.below HB4.out)
  clear hb4 hP4 hO4 HF H1 H2 HO3 HB3 HB2 HR HB
  go_wp2_with fail
  clear hmm
  go_loopw [13] (fun x wr => ∃ k : Nat, x = .int .i64 k ∧ k ≤ r ∧ Hid (Tally Try.prog 9 2 wr w4.heap.size (k + k) (netS (D.take k))) ∧ Hid (Below w4.heap.size w4 wr)) (fun x _ => r - (intOf x).toNat)
  case atStart => exact ⟨0, rfl, by omega, (Tally.made w4).congr (fun s => by simp [netS, toS, fromS]), (Below.refl _ _).alloc (Nat.le_refl _) _⟩
  case round =>
    obtain ⟨k, rfl, hk, hT, hB⟩ := hrel
    by_cases hlt : k < r
    · have hkD : k < D.length := by rw [HDn.out]; exact hlt
      obtain ⟨b5, o5, rfl, hb5, n1, n2, n3, n4⟩ := debt_at HO4.out k hkD
      have HK := Lib.hid (fun (W : World) (hb : Below w4.heap.size w4 W) => (⟨(hb.cell (p := ⟨b5, o5 + k * 4, none⟩) hb5).trans n1, (hb.cell (p := ⟨b5, o5 + k * 4 + 1, none⟩) hb5).trans n2, (hb.cell (p := ⟨b5, o5 + k * 4 + 3, none⟩) hb5).trans n4⟩ : W.cell? ⟨b5, o5 + k * 4, none⟩ = some (.string D[k].1) ∧ W.cell? ⟨b5, o5 + k * 4 + 1, none⟩ = some (.string D[k].2.1) ∧ W.cell? ⟨b5, o5 + k * 4 + 3, none⟩ = some (.int .i64 D[k].2.2)))
      have k1 := (hB.out.cell (p := ⟨b5, o5 + k * 4, none⟩) hb5).trans n1
      have k2 := (hB.out.cell (p := ⟨b5, o5 + k * 4 + 1, none⟩) hb5).trans n2
      have k3 := (hB.out.cell (p := ⟨b5, o5 + k * 4 + 2, none⟩) hb5).trans n3
      have k4 := (hB.out.cell (p := ⟨b5, o5 + k * 4 + 3, none⟩) hb5).trans n4
      clear n1 n2 n3 n4
      have hmem := List.getElem_mem hkD
      have hne := HSet.out.ne _ hmem
      have hp1 := HSet.out.pos _ hmem
      have hsucc := netS_succ D k hkD hne
      have hb1 := fun s => sums_bd (D.take k) (fun d hd => HSet.out.pos d (List.mem_of_mem_take hd)) s
      have ht1 := totS_take D HSet.out.pos k
      have ht2 := totS_take D HSet.out.pos (k + 1)
      rw [List.take_succ_eq_append_getElem hkD, totS_append] at ht2
      simp only [totS] at ht2
      have htt := HTot.out
      have hbf : -36283883716608 ≤ netS (D.take k) D[k].1 ∧ netS (D.take k) D[k].1 ≤ 36283883716608 := by
        have := hb1 D[k].1
        unfold netS
        omega
      have hbt : -36283883716608 ≤ netS (D.take k) D[k].2.1 ∧ netS (D.take k) D[k].2.1 ≤ 36283883716608 := by
        have := hb1 D[k].2.1
        unfold netS
        omega
      have hba : D[k].2.2 ≤ 36283883716608 := by
        have := hb1 ⟨#[]⟩
        omega
      have HSucc := Lib.hid hsucc
      have hfs : D[k].1.size ≤ maxLen := by
        obtain ⟨i, hi, e⟩ := (HSet.out.nm _ hmem).1
        have hiL : i < L.length := by rw [HN.out, ← HGl.out]; exact hi
        rw [e, HNm.out i hiL]
        have := HSz.out _ (List.getElem_mem hiL)
        unfold maxLen
        omega
      have hts : D[k].2.1.size ≤ maxLen := by
        rcases (HSet.out.nm _ hmem).2 with e | ⟨i, hi, e⟩
        · rw [e]; decide
        · have hiL : i < L.length := by rw [HN.out, ← HGl.out]; exact hi
          rw [e, HNm.out i hiL]
          have := HSz.out _ (List.getElem_mem hiL)
          unfold maxLen
          omega
      have HFs := Lib.hid hfs
      have HTs := Lib.hid hts
      clear hmem hsucc hb1 ht1 ht2 htt hfs hts
      generalize hF : netS (D.take k) = Tk at *
      have HT0 := Lib.hid hT.out
      clear hT hF
      generalize D[k].1 = f at *
      generalize D[k].2.1 = t at *
      generalize D[k].2.2 = v at *
      generalize hx1 : Tk f = x1 at *
      generalize hx2 : Tk t = x2 at *
      have HX1 := Lib.hid hx1
      have HX2 := Lib.hid hx2
      have HNe := Lib.hid hne
      have q1 : decide (v < 1) = false := by simpa using hp1
      have q2 : (f.toList == t.toList) = false := by
        rw [beq_eq_false_iff_ne]
        intro h
        exact hne (bytes_inj (by simpa [ByteArray.toList_eq] using h))
      have e1 : IntKind.i64.wrap (x1 - v) = x1 - v := IntWalk.i64_in _ (by omega)
      have e2 : IntKind.i64.wrap (x2 + v) = x2 + v := IntWalk.i64_in _ (by omega)
      clear hx1 hx2 hne
      go_wp2
      go_quiet (fail)
      go_wp2
      generalize hwq : World.drewN wr _ = wq
      have HTq := Lib.hid (show Tally Try.prog 9 2 wq w4.heap.size (k + k) Tk from hwq ▸ HT0.out.drewN _)
      have HBq := Lib.hid (show Below w4.heap.size w4 wq from hwq ▸ below_drewN hB.out _)
      clear k1 k2 k3 k4 hwq HT0 hB
      refine wp_region_still_tail 19 (by kernel_rfl) (by kernel_rfl) ?_
      simp only [List.take_succ_cons, List.take_zero, List.drop_succ_cons, List.drop_zero]
      generalize hwd : ({ wq with drawn := wq.drawn + 1 } : World) = wd
      have HTd := Lib.hid (show Tally Try.prog 9 2 wd w4.heap.size (k + k) Tk from hwd ▸ HTq.out.drew)
      have HBd := Lib.hid (show Below w4.heap.size w4 wd from hwd ▸ HBq.out.drew)
      clear hwd HTq HBq
      obtain ⟨m1, m2, m3⟩ := HK.out wd HBd.out
      have hlook := HTd.out.look (t := 38) Try.underlying9 Try.underlying38 Try.underlying2 (zero_i64 _) HFs.out
      rw [HX1.out] at hlook
      repeat still_step
      try refine wpStill_nil ?_
      go_wp2_with (at_mapUpdate; refine wpList_put_tally rfl (.tmp 79) (.tmp 84) (.tmp 97) 38 rfl HTd.out Try.underlying9 Try.underlying38 Try.underlying2 (by unfold maxLen; omega) HFs.out (x1 - v) (by simp [Lit.wf, IntKind.min, IntKind.max, IntKind.signed, IntKind.bits]; omega) rfl rfl rfl ?_; intro w5 hT5 hg5; have HT5 := Lib.hid hT5; have HB5 := Lib.hid (HBd.out.trans (grown_below hg5 HBd.out.size (Nat.le_refl _))); clear hT5 hg5 hlook m1 m2 m3 HTd HBd)
      refine wp_region_still_tail 19 (by kernel_rfl) (by kernel_rfl) ?_
      simp only [List.take_succ_cons, List.take_zero, List.drop_succ_cons, List.drop_zero]
      generalize hwd : ({ w5 with drawn := w5.drawn + 1 } : World) = wd
      have HTd := Lib.hid (show Tally Try.prog 9 2 wd w4.heap.size (k + k + 1) (fun u => if u = f then x1 - v else Tk u) from hwd ▸ HT5.out.drew)
      have HBd := Lib.hid (show Below w4.heap.size w4 wd from hwd ▸ HB5.out.drew)
      clear hwd HT5 HB5
      obtain ⟨m1, m2, m3⟩ := HK.out wd HBd.out
      have hlook := HTd.out.look (t := 38) Try.underlying9 Try.underlying38 Try.underlying2 (zero_i64 _) HTs.out
      have hx2' : (if t = f then x1 - v else Tk t) = x2 := by rw [if_neg (Ne.symm HNe.out), HX2.out]
      simp only [hx2'] at hlook
      clear hx2'
      repeat still_step
      try refine wpStill_nil ?_
      go_wp2_with (at_mapUpdate; refine wpList_put_tally rfl (.tmp 98) (.tmp 103) (.tmp 116) 38 rfl HTd.out Try.underlying9 Try.underlying38 Try.underlying2 (by unfold maxLen; omega) HTs.out (x2 + v) (by simp [Lit.wf, IntKind.min, IntKind.max, IntKind.signed, IntKind.bits]; omega) rfl rfl rfl ?_; intro w6 hT6 hg6; have HT6 := Lib.hid hT6; have HB6 := Lib.hid (HBd.out.trans (grown_below hg6 HBd.out.size (Nat.le_refl _))); clear hT6 hg6 hlook m1 m2 m3 HTd HBd)
      go_roundw
      case rel =>
        refine ⟨k + 1, by go_num, by omega, ?_, HB6.out⟩
        show Tally _ _ _ _ _ _ _
        rw [show k + 1 + (k + 1) = k + k + 1 + 1 by omega]
        exact HT6.out.congr HSucc.out
      case measure => simp [intOf]; omega
    · obtain rfl : k = r := by omega
      have HTz := hT.out
      rw [List.take_of_length_le (by rw [HDn.out]; exact Nat.le_refl _)] at HTz
      have HTz := Lib.hid HTz
      have HRz := Lib.hid (HR4.out.below (hB.out.mono (Nat.le_refl _)))
      have HGz := Lib.hid (HG4.out.below hB.out)
      have HOz := Lib.hid (HO4.out.below hB.out)
      have HBz := Lib.hid (HB4.out.trans (hB.out.mono HB4.out.size))
      clear hT hB HR4 HG4 HO4 HB4
      generalize w4.heap.size = bm at *
      go_wp2
      go_loopw [14] (fun x wx => ∃ i : Nat, x = .int .i64 i ∧ i ≤ m ∧ ∃ q, wx = wr.drewN q) (fun x _ => m - (intOf x).toNat)
      case atStart => exact ⟨0, rfl, by omega, 0, rfl⟩
      case round =>
        obtain ⟨i, rfl, hi, q, rfl⟩ := hrel
        by_cases hlt2 : i < m
        · have hiL : i < L.length := by rw [HN.out]; exact hlt2
          have hiG : i < G.length := by rw [HGl.out]; exact hlt2
          obtain ⟨b6, o6, rfl, hb6, u1, u2⟩ := intr_at HRz.out i hiL
          obtain ⟨b7, o7, rfl, hb7, hall, u3⟩ := HGz.out.at i (by simpa using hiG)
          clear hall
          rw [vals_getD G i hiG] at u3
          have hnet : netS D L[i].1 = G.getD i 0 := by
            have := HSet.out.net i hiG
            rw [HNm.out i hiL] at this
            exact this
          have haway : ∀ j (hj : j < D.length), (0 < G.getD i 0 → D[j].1 ≠ L[i].1) ∧ (G.getD i 0 < 0 → D[j].2.1 ≠ L[i].1) := fun j hj => by
            have := HSet.out.away _ (List.getElem_mem hj) i hiG
            rw [HNm.out i hiL] at this
            exact this
          have hsz := HSz.out _ (List.getElem_mem hiL)
          have hgb := HGb.out i
          have HAway := Lib.hid haway
          have hlook := fun q => (HTz.out.drewN q).look (t := 38) Try.underlying9 Try.underlying38 Try.underlying2 (zero_i64 _) (s := L[i].1) (by unfold maxLen; omega)
          rw [hnet] at hlook
          have HLook := Lib.hid hlook
          obtain ⟨g0, g1⟩ := hgb
          clear hnet haway hlook
          generalize L[i].1 = s at *
          generalize L[i].2 = v2 at *
          generalize G.getD i 0 = g at *
          have q2 : decide ((m : Int) ≤ i) = false := by simpa using hlt2
          go_wp2
          have hlook := HLook.out
          go_quiet (fail)
          clear hlook
          go_wp2
          go_loopw [15] (fun x wx => ∃ j : Nat, x = .int .i64 j ∧ j ≤ k ∧ ∃ q, wx = wr.drewN q) (fun x _ => k - (intOf x).toNat)
          case atStart => exact ⟨0, rfl, by omega, _, World.drewN_drewN _ _ _⟩
          case round =>
            obtain ⟨j, rfl, hj, q, rfl⟩ := hrel
            by_cases hlt3 : j < k
            · have hjD : j < D.length := by rw [HDn.out]; exact hlt3
              obtain ⟨b5, o5, rfl, hb5, k1, k2, k3, k4⟩ := debt_at HOz.out j hjD
              obtain ⟨w1, w2⟩ := HAway.out j hjD
              have hsne : ∀ {x y : ByteArray}, x ≠ y → (x.toList == y.toList) = false := by
                intro x y h
                rw [beq_eq_false_iff_ne]
                intro h2
                exact h (bytes_inj (by simpa [ByteArray.toList_eq] using h2))
              generalize D[j].1 = f at *
              generalize D[j].2.1 = t at *
              generalize D[j].2.2 = v at *
              rcases Int.lt_trichotomy g 0 with hg | hg | hg
              · have t1 := hsne (w2 hg)
                have t2 : decide (0 < g) = false := by simp; omega
                have t3 : decide (g < 0) = true := by simp; omega
                clear w1 w2 hsne
                go_wp2
                go_quiet (fail)
                go_wp2
                go_roundw
                case rel => exact ⟨j + 1, by go_num, by omega, _, rfl⟩
                case measure => simp [intOf]; omega
              · subst hg
                clear w1 w2 hsne
                go_wp2
                go_quiet (fail)
                go_wp2
                go_roundw
                case rel => exact ⟨j + 1, by go_num, by omega, _, rfl⟩
                case measure => simp [intOf]; omega
              · have t1 := hsne (w1 hg)
                have t2 : decide (0 < g) = true := by simp; omega
                have t3 : decide (g < 0) = false := by simp; omega
                clear w1 w2 hsne
                go_wp2
                go_quiet (fail)
                go_wp2
                go_roundw
                case rel => exact ⟨j + 1, by go_num, by omega, _, rfl⟩
                case measure => simp [intOf]; omega
            · obtain rfl : j = k := by omega
              go_wp2
              go_roundw
              case rel => exact ⟨i + 1, by go_num, by omega, _, rfl⟩
              case measure => simp [intOf]; omega
        · obtain rfl : i = m := by omega
          have hlook := fun q => (HTz.out.drewN q).look (t := 38) Try.underlying9 Try.underlying38 Try.underlying2 (zero_i64 _) (s := ⟨#[]⟩) (by decide)
          have hown : netS D ⟨#[]⟩ = spent := HSet.out.own
          rw [hown] at hlook
          clear hown
          have q3 : decide ((k : Int) ≤ i + 1) = true := by simp; omega
          go_wp2
          go_ret
          exact ⟨rfl, below_drewN HBz.out _⟩

theorem l_asettles (a : Option Addr) (n c : Nat) (L : List (ByteArray × Int)) (b : Option Addr) (m d : Nat) (gs : List Int) (spent : Int) (w : World) (hn : L.length = n) (hm : n ≤ 9223372036854775807) (hr : Rd w a (cellsI L)) (hs : ∀ p ∈ L, p.1.size ≤ 9223372036854775807 ∧ (Lit.int .i64 p.2).wf = true) (hg : gs.length = m) (hgm : m ≤ 9223372036854775807) (hb : Rd w b (vals .i64 gs)) (hgz : ∀ x ∈ gs, (Lit.int .i64 x).wf = true) (hsp : (Lit.int .i64 spent).wf = true) :
    Calls Try.prog 5 #[.slice a n c, .slice b m d, .int .i64 spent] w fun e w' => e = .returned (.bool true) ∧ Below w.heap.size w w' := by
  have hs' : ∀ p ∈ L, p.1.size ≤ 9223372036854775807 := fun p hp => (hs p hp).1
  cases hf : fewG L m
  · exact l_asettles_few a b n c m d L gs spent w hn hm hr hs' hgm hf
  · have h1 := fewG_len hf
    rw [hn] at h1
    by_cases he : wholeE L gs spent = 0
    · have hmn : m = n := by rw [← hg, ← hn]; exact (whole_facts he).glen
      subst hmn
      exact l_asettles_good a b m c d L gs spent w hn (by omega) hr hs' hg hb hf he
    · exact l_asettles_bad a b n c m d L gs spent w hn (by omega) hr hs' hg hgm hb hf he

end Go.Proofs.Ytbcmaaoddnaoiaa
