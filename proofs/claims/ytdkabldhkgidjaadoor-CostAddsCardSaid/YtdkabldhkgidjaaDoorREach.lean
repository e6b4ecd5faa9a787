/-
  The reference's Each (layer 20): its walk.
-/
import Derived.Test.YtdkabldhkgidjaaDoorEach
import Derived.Test.YtdkabldhkgidjaaDoorRSplit
import Derived.StillTailTactics
namespace Go.Proofs.YtdkabldhkgidjaaDoor
set_option linter.unusedVariables false
set_option linter.unusedSimpArgs false
open Go.RowKit

set_option maxRecDepth 100000 in
set_option maxHeartbeats 1600000 in
theorem c_reach_bad (o : Ord) (a : Option Addr) (n c : Nat) (L : List Cst) (w : World) (ho : OrdOk w o) (hn : L.length = n) (hm : n ≤ 9223372036854775807) (hr : Rd w a (flat cC L)) (hok : ∀ x ∈ L, CstOk x) (hT : Tab w) (he : landE o L ≠ 0) :
    Calls Tryd.prog 18 #[o.v, .slice a n c] w fun e w' => e = .returned (.tuple #[.slice none 0 0, .int .i64 (landE o L)]) ∧ Below w.heap.size w w' := by
  have HBo := fun w ho hr hT => c_rlanded o a n c L w ho hn hm hr hok hT
  have HO := Lib.hid ho
  have HR := Lib.hid hr
  have HT := Lib.hid hT
  have HB0 := Lib.hid ((Below.refl w.heap.size w).alloc (Nat.le_refl _) (.cells #[.string o.nu, .string o.se, .string o.bu, .string o.cu, .string o.fr, .string o.tt, .int .i64 o.term, .slice o.la o.ln o.lc] 33))
  clear ho hr hT hn hok
  unfold Ord.v at HBo ⊢
  generalize landT o L + landC o L = T at *
  generalize landE o L = E at *
  have t4 : (E != 0) = true := by simpa using he
  have HE := Lib.hid he
  have HBo := Lib.hid HBo
  clear he
  go_enter Tryd.func18, Tryd.ntmps18
  go_wp2_with fail
  refine (HBo.out _ (HO.out.below HB0.out) (HR.out.below HB0.out) (HT.out.below HB0.out)).mono ?_
  rintro e w1 ⟨rfl, hb1⟩
  have HB1 := Lib.hid (HB0.out.trans (hb1.mono HB0.out.size))
  clear hb1
  go_wp2_with fail
  go_ret2
  exact ⟨rfl, HB1.out⟩

theorem own_some {s : Nat} {w : World} {B n c : Nat} {e : TypeId} {A : Option Addr} {xs : List Value} (h : OwnS s w B e A n c xs) (hn : 0 < n) : ∃ g, A = some ⟨g, 0, none⟩ := by
  rcases h.form with ⟨_, h0, _⟩ | ⟨g, rfl, _⟩
  · omega
  · exact ⟨g, rfl⟩
theorem own_last {w : World} {B n c g : Nat} {e : TypeId} {xs : List Value} {v : Value} (h : OwnS 1 w B e (some ⟨g, 0, none⟩) (n + 1) c (xs ++ [v])) (hl : xs.length = n) : w.cell? ⟨g, n, none⟩ = some v := by
  obtain ⟨b, o, e, _, _, hc⟩ := h.rd.at n (by simp [hl])
  injection e with e
  injection e with e1 e2 _
  subst e1 e2
  rw [Nat.zero_add] at hc
  rw [hc]
  simp [← hl]
theorem OwnS.emptyI (w : World) (e : TypeId) (B : Nat) (hB : B ≤ w.heap.size) : OwnS 1 (w.alloc (.cells #[] e)) B e (some ⟨w.heap.size, 0, none⟩) 0 0 [] := OwnS.emptyC 1 w e B hB
theorem TwoRows.empties (w : World) (e : TypeId) (B : Nat) (hB : B ≤ w.heap.size) : TwoRows 1 e B ((w.alloc (.cells #[] e)).alloc (.cells #[] e)) (some ⟨w.heap.size, 0, none⟩) 0 0 [] (some ⟨w.heap.size + 1, 0, none⟩) 0 0 [] :=
  ⟨(OwnS.emptyC 1 w e B hB).alloc _, by
    have := OwnS.emptyC 1 (w.alloc (.cells #[] e)) e B (by simp; omega)
    simpa using this, fun k hk h2 => by simp [Value.ownBlock] at hk h2; omega⟩

set_option maxRecDepth 100000 in
set_option maxHeartbeats 6400000 in
theorem c_reach (o : Ord) (a : Option Addr) (n c : Nat) (L : List Cst) (w : World) (ho : OrdOk w o) (hn : L.length = n) (hm : n ≤ 9223372036854775807) (hr : Rd w a (flat cC L)) (hok : ∀ x ∈ L, CstOk x) (hT : Tab w) (he : landE o L = 0) :
    Calls Tryd.prog 18 #[o.v, .slice a n c] w (EachOk o L w) := by
  obtain ⟨i0, hi, hz0, hz1, hz2⟩ := info_parts info_i64v
  have HI := Lib.hid hi
  have HZ0 := Lib.hid hz0
  have HZ1 := Lib.hid hz1
  have HZ2 := Lib.hid hz2
  have HBo := fun w ho hr hT => c_rlanded o a n c L w ho hn hm hr hok hT
  rw [he] at HBo
  obtain ⟨e1, e2, hTn, hCn, cc0, cc1⟩ := landE_zero he
  obtain ⟨htm, hod, hlm⟩ := splitE_zero e2
  rw [hn] at hlm
  have HOf := fun w hr => c_rcof o.term true a n c L w hn hlm hr htm
  unfold OfOk at HOf
  have HSum := fun A c' w hr => c_rcsum A (ofC o.term true L).length c' (ofC o.term true L) w rfl (by have := ofC_len o.term true L; omega) hr (ofC_am hod)
  rw [show sumC (ofC o.term true L) = landC o L from hCn.symm] at HSum
  obtain ⟨hmy, t0, t1, t2⟩ := totE_zero e1
  obtain ⟨hf, l0, l1⟩ := linesB_facts (Ord.may_lines hmy)
  obtain ⟨w0, w1', w2'⟩ := wgt_facts e1
  have hln := ho.hl
  rw [hln] at l0 l1
  have herr := each_err he
  have hpb := parts_bd cc0 (fun x hx => (w0 x hx).1) w1'
  have HPb := Lib.hid (fun k => getD_bd cc0 hpb k)
  have HWb := Lib.hid (fun k => getD_bd (by omega) w2' k)
  have HPl := Lib.hid (show (partsOf (landC o L) (o.L.map (wgtO o))).length = o.ln by rw [parts_length, List.length_map, hln])
  have HSp := Lib.hid (fun A c' w hr => c_rsplit (landC o L) A o.ln c' (o.L.map (wgtO o)) w (by rw [List.length_map, hln]) hr herr)
  have HEach : eachP o L = mixE (partsOf (landC o L) (o.L.map (wgtO o))) (o.L.map worth) o.ln := by unfold eachP; rw [hln]
  have HSW := Lib.hid (fun k => sumW_bd (L := o.L.take k) (fun x hx => (hf x (List.mem_of_mem_take hx)).2.2))
  unfold EachOk
  rw [HEach]
  have hwc : totN o = 0 → o.L.map (wgtO o) = o.L.map Lne.c := fun h => List.map_congr_left fun x _ => by unfold wgtO; rw [if_pos h]
  have hww : ¬ totN o = 0 → o.L.map (wgtO o) = o.L.map worth := fun h => List.map_congr_left fun x _ => by unfold wgtO; rw [if_neg h]
  have HTn := Lib.hid t1
  have HF := Lib.hid hf
  have HLn := Lib.hid hln
  have HO := Lib.hid ho
  have HR := Lib.hid hr
  have HT := Lib.hid hT
  have BK := Lib.hid (Blk.new w 33 #[.string o.nu, .string o.se, .string o.bu, .string o.cu, .string o.fr, .string o.tt, .int .i64 o.term, .slice o.la o.ln o.lc])
  have HB0 := Lib.hid ((Below.refl w.heap.size w).alloc (Nat.le_refl _) (.cells #[.string o.nu, .string o.se, .string o.bu, .string o.cu, .string o.fr, .string o.tt, .int .i64 o.term, .slice o.la o.ln o.lc] 33))
  have HWc := Lib.hid hwc
  have HWw := Lib.hid hww
  clear ho hr hT hn hok he e1 e2 hTn hCn hmy t0 t1 t2 hf w0 w1' w2' hln herr hpb HEach hi hz0 hz1 hz2 htm hod hlm hwc hww
  unfold Ord.v at HBo ⊢
  generalize landT o L + landC o L = TC at *
  generalize landC o L = C at *
  generalize totN o = T at *
  generalize ofC o.term true L = X at *
  generalize hZZ : o.L.map (wgtO o) = ZW at *
  clear hZZ
  generalize hPP : partsOf C ZW = PP at *
  clear hPP
  have HBo := Lib.hid HBo
  have HOf := Lib.hid HOf
  have HSum := Lib.hid HSum
  go_enter Tryd.func18, Tryd.ntmps18
  go_wp2_with fail
  refine (HBo.out _ (HO.out.below HB0.out) (HR.out.below HB0.out) (HT.out.below HB0.out)).mono ?_
  rintro e w1 ⟨rfl, hb1⟩
  have HB1 := Lib.hid (HB0.out.trans (hb1.mono HB0.out.size))
  have BK1 := Lib.hid (BK.out.below hb1 BK.out.lt)
  have HR1 := Lib.hid (HO.out.hr.below HB1.out)
  have hzz := HB1.out.size
  have hgl := BK1.out.lt
  clear hb1 HBo BK HB0
  go_wp2_with fail
  have HE0 := Lib.hid (TwoRows.empties w1 2 w1.heap.size (Nat.le_refl _))
  have HBE := Lib.hid (((Below.refl w1.heap.size w1).alloc (Nat.le_refl _) (.cells #[] 2)).alloc (by simp) (.cells #[] 2))
  go_loopw [8, 9, 10, 11] (fun y z s x wr => ∃ (k : Nat) (u : Int) (A1 : Option Addr) (c1 : Nat) (A2 : Option Addr) (c2 : Nat), y = .slice A1 k c1 ∧ z = .slice A2 k c2 ∧ s = .int .i64 u ∧ x = .int .i64 k ∧ k ≤ o.ln ∧ 0 ≤ u ∧ u ≤ 72057594037927936 ∧ Hid (u = sumW (o.L.take k)) ∧ Hid (TwoRows 1 2 w1.heap.size wr A1 k c1 (vals .i64 ((o.L.take k).map worth)) A2 k c2 (vals .i64 ((o.L.take k).map Lne.c))) ∧ Hid (Below w1.heap.size w1 wr)) (fun _ _ _ x _ => o.ln - (intOf x).toNat)
  case atStart => exact ⟨0, 0, _, 0, _, 0, rfl, rfl, rfl, rfl, by omega, by omega, by omega, rfl, HE0.out, HBE.out⟩
  case round =>
    obtain ⟨k, u, A1, c1, A2, c2, rfl, rfl, rfl, rfl, hk, u0, u1, hu, hTw, hB⟩ := hrel
    have BKr := Lib.hid (BK1.out.below hB.out hgl)
    have k7 := BKr.out.cell 7 rfl
    have hz := hB.out.size
    have HK7 := Lib.hid (fun (wx : World) (hb : Below w1.heap.size w1 wx) => (BK1.out.below hb hgl).cell 7 rfl)
    by_cases hlt : k < o.ln
    · have hkL : k < o.L.length := by rw [HLn.out]; exact hlt
      obtain ⟨b, off, hla, hb1, d0, d1, d2⟩ := line_at HR1.out k hkL
      have hk7 : ∀ wx : World, Below w1.heap.size w1 wx → wx.cell? ⟨w.heap.size, 7, none⟩ = some (.slice o.la o.ln o.lc) := HK7.out
      rw [hla] at k7 hk7
      clear hla HK7
      have HK7 := Lib.hid hk7
      have HD1 := Lib.hid (fun (wx : World) (h : Below w1.heap.size w1 wx) => (h.cell (p := ⟨b, off + k * 3 + 1, none⟩) hb1).trans d1)
      have HD2 := Lib.hid (fun (wx : World) (h : Below w1.heap.size w1 wx) => (h.cell (p := ⟨b, off + k * 3 + 2, none⟩) hb1).trans d2)
      have hb : b < wr.heap.size := by omega
      clear d0 d1 d2 hk7
      have hs1 := map_take_succ worth o.L k hkL
      have hs2 := map_take_succ Lne.c o.L k hkL
      have hw := HF.out _ (List.getElem_mem hkL)
      have hts := sumW_take_succ o.L k hkL
      have hbd := HSW.out (k + 1)
      rw [List.length_take] at hbd
      have HS := Lib.hid (show u + worth o.L[k] = sumW (o.L.take (k + 1)) by rw [hts, hu.out])
      have hle : 0 ≤ u + worth o.L[k] ∧ u + worth o.L[k] ≤ 72057594037927936 := by rw [HS.out]; omega
      obtain ⟨l2, l3⟩ := hle
      clear hts hbd hu
      generalize o.L[k] = p at *
      obtain ⟨pg, pc, pp⟩ := p
      obtain ⟨q2, q3, q0, q1⟩ := hw
      rw [show worth ⟨pg, pc, pp⟩ = pc * pp from rfl] at hs1
      unfold worth at q0 q1 l2 l3
      have HS := Lib.hid (show u + pc * pp = sumW (o.L.take (k + 1)) from HS.out)
      simp only at q0 q1 q2 l2 l3 hs2 HD1 HD2
      have d1 := HD1.out _ hB.out
      have d2 := HD2.out _ hB.out
      have e0 : IntKind.i64.wrap (pc * pp) = pc * pp := IntWalk.i64_in _ (by omega)
      have e5 : IntKind.i64.wrap (u + pc * pp) = u + pc * pp := IntWalk.i64_in _ (by omega)
      have HS1 := Lib.hid hs1
      have HS2 := Lib.hid hs2
      have HTw := Lib.hid hTw.out
      have hxl : (vals .i64 ((o.L.take k).map worth)).length = k := by rw [vals_length, List.length_map, List.length_take]; omega
      have HXl := Lib.hid hxl
      clear hs1 hs2 hTw q2 q3 hxl
      generalize vals .i64 ((o.L.take k).map worth) = X1 at *
      generalize vals .i64 ((o.L.take k).map Lne.c) = X2 at *
      have hgr : w.heap.size < wr.heap.size := by omega
      go_wp2
      have HBd := Lib.hid (hB.out.drew.alloc hB.out.drew.size (.cells #[.int .i64 (pc * pp)] 2))
      have HTd := Lib.hid (HTw.out.below ((Below.refl wr.heap.size wr).drew.alloc (Nat.le_refl _) (.cells #[.int .i64 (pc * pp)] 2)))
      have HN1 := Lib.hid (fun j u hu => new_one wr.drew (.int .i64 (pc * pp)) 2 j u hu)
      have BKd := Lib.hid ((BKr.out.drew).alloc (.cells #[.int .i64 (pc * pp)] 2))
      have HRd := Lib.hid ((((HR1.out.below hB.out).drew)).alloc (.cells #[.int .i64 (pc * pp)] 2))
      go_region_law ((with_reducible refine step_appT (o := ⟨some 48, _, _, _, _, _⟩) ?_ (.tmp 33) (.tmp 47) 37 ?_ 1 (by omega) w1.heap.size 2 i0 _ 8 Tryd.underlying37 HI.out HZ0.out HZ1.out HZ2.out ?_ A1 k c1 X1 ?_ ?_ wr.heap.size 0 1 1 [.int .i64 (pc * pp)] ?_ ?_ ?_ ?_ ?_ ?_ ?_ ?_); (focus rfl); (focus rfl); (focus rfl); (focus (simp [go_sem]; done)); (focus exact HTd.out.r1); (focus (simp [go_sem]; done)); (focus rfl); (focus exact HN1.out); (focus exact one_int _ _); (focus (unfold maxLen; omega)); (focus omega); (focus exact HBd.out.size); (intro A1' c1' w3 hown hg3 hr3); (go_must (obtain ⟨g5, hA1⟩ := own_some hown (by omega))); (go_must (subst hA1)); (go_must (have HT3 := Lib.hid (HTd.out.app hown hg3 hr3))); (go_must (have HB3 := Lib.hid (HBd.out.trans (HTd.out.r1.belowApp hg3 (Nat.le_refl _) HBd.out.size)))); (go_must (have j7 := HK7.out _ HB3.out)); (go_must (have j1 := HD1.out _ HB3.out)); (clear hown hg3 hr3))
      all_goals
        go_wp2_with (at_builtin; have HN2 := Lib.hid (fun j u hu => new_one w3 (.int .i64 pc) 2 j u hu); have HB4 := Lib.hid (HB3.out.alloc HB3.out.size (.cells #[.int .i64 pc] 2)); have HTw4 := Lib.hid (HT3.out.swap.below ((Below.refl w3.heap.size w3).alloc (Nat.le_refl _) (.cells #[.int .i64 pc] 2))); refine wpList_appT rfl (.tmp 49) (.tmp 56) _ rfl 1 (by omega) w1.heap.size 2 i0 _ 8 Tryd.underlying37 HI.out HZ0.out HZ1.out HZ2.out rfl A2 k c2 X2 rfl HTw4.out.r1 w3.heap.size 0 1 1 [.int .i64 pc] rfl rfl HN2.out (one_int _ _) (by unfold maxLen; omega) (by omega) HB4.out.size ?_; intro A2' c2' w5 hown hg5 hr5; have HT5 := Lib.hid (HTw4.out.app hown hg5 hr5); have HB5 := Lib.hid (HB4.out.trans (HTw4.out.r1.belowApp hg5 (Nat.le_refl _) HB4.out.size)); have j5 := own_last HT5.out.r2 HXl.out; clear hown hg5 hr5)
        go_roundw
        case rel =>
          refine ⟨k + 1, u + pc * pp, _, c1', A2', c2', rfl, rfl, rfl, by go_num, by omega, by omega, by omega, HS.out, ?_, HB5.out⟩
          rw [HS1.out, HS2.out]
          exact HT5.out.swap
        case measure => simp [intOf]; omega
    · obtain rfl : k = o.ln := by omega
      have hu2 := hu.out
      rw [List.take_of_length_le (by rw [HLn.out]; exact Nat.le_refl _)] at hTw hu2
      have huT : u = T := hu2.trans HTn.out.symm
      have HTw := Lib.hid hTw.out
      have HBw := Lib.hid hB.out
      have k6 := BKr.out.cell 6 rfl
      have HR5 := Lib.hid (HR.out.below (HB1.out.trans (hB.out.mono hzz)))
      clear hTw hB hu hu2 HTn
      by_cases hz0 : u = 0
      · have hT0 : T = 0 := by omega
        have HRow := Lib.hid (show Rd wr A2 (vals .i64 ZW) from by rw [HWc.out hT0]; exact HTw.out.r2.rd)
        clear huT hT0
        subst hz0
        go_wp2_with fail
        refine (HOf.out _ HR5.out).mono ?_
        rintro e w2 ⟨A3, c3, rfl, hr3, hb2⟩
        have HR3 := Lib.hid hr3
        have HB2 := Lib.hid (HBw.out.trans (hb2.mono hz))
        have HRw := Lib.hid (HRow.out.below hb2)
        have hz2 := hb2.size
        have HWw2 := Lib.hid (HTw.out.r1.rd.below hb2)
        clear hb2 hr3 k6 k7
        go_wp2_with fail
        refine (HSum.out _ _ _ HR3.out).mono ?_
        rintro e w4 ⟨rfl, rfl⟩
        go_wp2_with fail
        refine (HSp.out _ _ _ HRw.out).mono ?_
        rintro e w5 ⟨b, t, rfl, hbl, hb5, hblk⟩
        have HW5 := Lib.hid (HWw2.out.below hb5)
        have HBr := Lib.hid (show Below wr.heap.size w2 w5 from hb5.mono hz2)
        have HBr2 := Lib.hid hb5
        have HBlk := Lib.hid hblk
        have hr5 := hb5.size
        have hbb : w.heap.size ≤ b := by omega
        clear hb5 hblk
        have HM0 := Lib.hid (show Blk w5 b t (rowI .i64 (mixE PP (o.L.map worth) 0)) from by rw [mixE_zero]; exact HBlk.out)
        go_wp2_with fail
        go_loopw [14] (fun x wr2 => ∃ k : Nat, x = .int .i64 k ∧ k ≤ o.ln ∧ Hid (Blk wr2 b t (rowI .i64 (mixE PP (o.L.map worth) k))) ∧ Hid (Below w2.heap.size w2 wr2)) (fun x _ => o.ln - (intOf x).toNat)
        case atStart => exact ⟨0, rfl, by omega, HM0.out, HBr2.out⟩
        case round =>
          obtain ⟨k, rfl, hk2, hM, hBq⟩ := hrel
          by_cases hlt2 : k < o.ln
          · have hkp : k < PP.length := by rw [HPl.out]; exact hlt2
            have hkw : k < (o.L.map worth).length := by rw [List.length_map, HLn.out]; exact hlt2
            obtain ⟨g1, o1, rfl, hg1, hall, wc⟩ := (HWw2.out.below hBq.out).at k (by simpa using hkw)
            rw [vals_get .i64 _ k hkw] at wc
            have ew : (o.L.map worth)[k] = (o.L.map worth).getD k 0 := by rw [List.getD_eq_getElem?_getD, List.getElem?_eq_getElem hkw]; rfl
            rw [ew] at wc
            have pc := hM.out.cell k (rowI_get .i64 _ k (by rw [mixE_length]; exact hkp))
            rw [mixE_at _ _ _ hkp] at pc
            have pf := hM.out.free k
            have hst := mixE_step PP (o.L.map worth) k hkp
            obtain ⟨p0, p1⟩ := HPb.out k
            obtain ⟨v0, v1⟩ := HWb.out k
            have hset := hM.out.set k (.int .i64 (PP.getD k 0 + (o.L.map worth).getD k 0))
            rw [rowI_set, hst] at hset
            have HBn := Lib.hid (hBq.out.setCell (p := ⟨b, k, none⟩) (by simpa using hbl) (.int .i64 (PP.getD k 0 + (o.L.map worth).getD k 0)))
            have HSet := Lib.hid hset
            have hki : (k : Int) < o.ln := by omega
            clear hall ew hst hset hM
            generalize PP.getD k 0 = x at *
            generalize (o.L.map worth).getD k 0 = y at *
            have e1 : IntKind.i64.wrap (x + y) = x + y := IntWalk.i64_in _ (by omega)
            go_wp2
            go_region
            all_goals
              go_wp2
              go_roundw
              case rel => exact ⟨k + 1, by go_num, by omega, HSet.out, below_drewN HBn.out _⟩
              case measure => simp [intOf]; omega
          · obtain rfl : k = o.ln := by omega
            have HFin := Lib.hid (show Below w.heap.size w wr from HB1.out.trans ((HB2.out.trans (hBq.out.mono (by omega))).mono hzz))
            have HMf := Lib.hid hM.out
            clear hM
            go_wp2
            go_ret2
            exact ⟨b, t, rfl, hbb, HFin.out, HMf.out⟩

      · have hT0 : ¬ T = 0 := by omega
        have HRow := Lib.hid (show Rd wr A1 (vals .i64 ZW) from by rw [HWw.out hT0]; exact HTw.out.r1.rd)
        have t9 : (u == 0) = false := by simpa using hz0
        clear hz0 hT0 huT
        go_wp2_with fail
        refine (HOf.out _ HR5.out).mono ?_
        rintro e w2 ⟨A3, c3, rfl, hr3, hb2⟩
        have HR3 := Lib.hid hr3
        have HB2 := Lib.hid (HBw.out.trans (hb2.mono hz))
        have HRw := Lib.hid (HRow.out.below hb2)
        have hz2 := hb2.size
        have HWw2 := Lib.hid (HTw.out.r1.rd.below hb2)
        clear hb2 hr3 k6 k7
        go_wp2_with fail
        refine (HSum.out _ _ _ HR3.out).mono ?_
        rintro e w4 ⟨rfl, rfl⟩
        go_wp2_with fail
        refine (HSp.out _ _ _ HRw.out).mono ?_
        rintro e w5 ⟨b, t, rfl, hbl, hb5, hblk⟩
        have HW5 := Lib.hid (HWw2.out.below hb5)
        have HBr := Lib.hid (show Below wr.heap.size w2 w5 from hb5.mono hz2)
        have HBr2 := Lib.hid hb5
        have HBlk := Lib.hid hblk
        have hr5 := hb5.size
        have hbb : w.heap.size ≤ b := by omega
        clear hb5 hblk
        have HM0 := Lib.hid (show Blk w5 b t (rowI .i64 (mixE PP (o.L.map worth) 0)) from by rw [mixE_zero]; exact HBlk.out)
        go_wp2_with fail
        go_loopw [14] (fun x wr2 => ∃ k : Nat, x = .int .i64 k ∧ k ≤ o.ln ∧ Hid (Blk wr2 b t (rowI .i64 (mixE PP (o.L.map worth) k))) ∧ Hid (Below w2.heap.size w2 wr2)) (fun x _ => o.ln - (intOf x).toNat)
        case atStart => exact ⟨0, rfl, by omega, HM0.out, HBr2.out⟩
        case round =>
          obtain ⟨k, rfl, hk2, hM, hBq⟩ := hrel
          by_cases hlt2 : k < o.ln
          · have hkp : k < PP.length := by rw [HPl.out]; exact hlt2
            have hkw : k < (o.L.map worth).length := by rw [List.length_map, HLn.out]; exact hlt2
            obtain ⟨g1, o1, rfl, hg1, hall, wc⟩ := (HWw2.out.below hBq.out).at k (by simpa using hkw)
            rw [vals_get .i64 _ k hkw] at wc
            have ew : (o.L.map worth)[k] = (o.L.map worth).getD k 0 := by rw [List.getD_eq_getElem?_getD, List.getElem?_eq_getElem hkw]; rfl
            rw [ew] at wc
            have pc := hM.out.cell k (rowI_get .i64 _ k (by rw [mixE_length]; exact hkp))
            rw [mixE_at _ _ _ hkp] at pc
            have pf := hM.out.free k
            have hst := mixE_step PP (o.L.map worth) k hkp
            obtain ⟨p0, p1⟩ := HPb.out k
            obtain ⟨v0, v1⟩ := HWb.out k
            have hset := hM.out.set k (.int .i64 (PP.getD k 0 + (o.L.map worth).getD k 0))
            rw [rowI_set, hst] at hset
            have HBn := Lib.hid (hBq.out.setCell (p := ⟨b, k, none⟩) (by simpa using hbl) (.int .i64 (PP.getD k 0 + (o.L.map worth).getD k 0)))
            have HSet := Lib.hid hset
            have hki : (k : Int) < o.ln := by omega
            clear hall ew hst hset hM
            generalize PP.getD k 0 = x at *
            generalize (o.L.map worth).getD k 0 = y at *
            have e1 : IntKind.i64.wrap (x + y) = x + y := IntWalk.i64_in _ (by omega)
            go_wp2
            go_region
            all_goals
              go_wp2
              go_roundw
              case rel => exact ⟨k + 1, by go_num, by omega, HSet.out, below_drewN HBn.out _⟩
              case measure => simp [intOf]; omega
          · obtain rfl : k = o.ln := by omega
            have HFin := Lib.hid (show Below w.heap.size w wr from HB1.out.trans ((HB2.out.trans (hBq.out.mono (by omega))).mono hzz))
            have HMf := Lib.hid hM.out
            clear hM
            go_wp2
            go_ret2
            exact ⟨b, t, rfl, hbb, HFin.out, HMf.out⟩


end Go.Proofs.YtdkabldhkgidjaaDoor
