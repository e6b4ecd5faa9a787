/-
  The references' Currency (layer 1), Find, May, held, Total (layer 19): their walks.
-/
import Derived.Test.YtdkabldhkgidjaaDoorOrd2
import Derived.Test.YtdkabldhkgidjaaDoorRName
namespace Go.Proofs.YtdkabldhkgidjaaDoor
set_option linter.unusedVariables false
set_option linter.unusedSimpArgs false
open Go.RowKit

def upB (b : UInt8) : Bool := decide (65 ≤ b.toNat ∧ b.toNat ≤ 90)
theorem up_take_succ (l : List UInt8) (k : Nat) (h : k < l.length) : (l.take (k + 1)).all upB = ((l.take k).all upB && upB l[k]) := by
  rw [List.take_succ_eq_append_getElem h, List.all_append]
  simp
set_option maxHeartbeats 800000 in
theorem c_rcurr (s : ByteArray) (w : World) (hs : s.size ≤ 9223372036854775807) : Calls Tryd.prog 61 #[.string s] w fun e w' => e = .returned (.bool (currB s)) ∧ w = w' := by
  obtain ⟨M, hM⟩ : ∃ M, M = currB s := ⟨_, rfl⟩
  rw [← hM]
  have hM2 : M = (decide (s.size = 3) && s.data.toList.all upB) := hM
  have HM := Lib.hid hM2
  clear hM hM2
  by_cases h3 : s.size = 3
  · have t1 : ((s.size : Int) != 3) = false := by simp; omega
    have H3 := Lib.hid h3
    have h3i : s.size ≤ 3 ∧ 3 ≤ s.size := by omega
    obtain ⟨z0, z1⟩ := h3i
    clear h3
    go_enter Tryd.func61, Tryd.ntmps61
    go_wp2
    go_loop [3] (fun x => ∃ k : Nat, x = .int .i64 k ∧ k ≤ 3 ∧ Hid ((s.data.toList.take k).all upB = true)) (fun x => 3 - (intOf x).toNat)
    case atStart => exact ⟨0, rfl, by omega, rfl⟩
    case round =>
      obtain ⟨k, rfl, hk, hA⟩ := hrel
      by_cases hlt : k < 3
      · have hks : k < s.size := by omega
        have hki : (k : Int) < 3 := by omega
        have hts := up_take_succ s.data.toList k (by simpa using hks)
        rw [hA.out, Bool.true_and] at hts
        have eb : s.data.toList[k]'(by simpa using hks) = s[k] := rfl
        rw [eb] at hts
        unfold upB at hts
        have HBad := Lib.hid (fun (h : (s.data.toList.take (k + 1)).all upB = false) => (show M = false from by
          rw [HM.out]
          have : s.data.toList.all upB = false := by
            cases hx : s.data.toList.all upB
            · rfl
            · rw [List.all_eq_true] at hx
              rw [List.all_eq_false] at h
              obtain ⟨y, hy, h2⟩ := h
              exact absurd (hx y (List.mem_of_mem_take hy)) h2
          rw [this]; simp))
        have hx1 : (s[k].toNat : Int) < 256 := by have := s[k].toNat_lt; omega
        by_cases h1 : (s[k].toNat : Int) < 65
        · have HF := Lib.hid (HBad.out (hts.trans (decide_eq_false (by omega))))
          clear hts HBad
          go_wp2
          go_ret
          exact ⟨ret_b HF.out.symm, rfl⟩
        · by_cases h2 : (90 : Int) < (s[k].toNat : Int)
          · have HF := Lib.hid (HBad.out (hts.trans (decide_eq_false (by omega))))
            clear hts HBad
            go_wp2
            go_ret
            exact ⟨ret_b HF.out.symm, rfl⟩
          · have HT := Lib.hid (show (s.data.toList.take (k + 1)).all upB = true from hts.trans (decide_eq_true (by omega)))
            clear hts HBad
            go_wp2
            go_round
            case rel => exact ⟨k + 1, by go_num, by omega, HT.out⟩
            case measure => simp [intOf]; omega
      · obtain rfl : k = 3 := by omega
        have h1 := hA.out
        rw [List.take_of_length_le (by simpa using z0)] at h1
        have HF := Lib.hid (show M = true by rw [HM.out, h1, decide_eq_true H3.out]; rfl)
        clear h1 hA
        go_wp2
        go_ret
        exact ⟨ret_b HF.out.symm, rfl⟩
  · have t1 : ((s.size : Int) != 3) = true := by simp; omega
    have HF := Lib.hid (show M = false by rw [HM.out, decide_eq_false h3]; rfl)
    clear h3
    go_enter Tryd.func61, Tryd.ntmps61
    go_wp2
    go_ret
    exact ⟨ret_b HF.out.symm, rfl⟩

/-- A good's place, or -1. -/
def findFrom : List Lne → ByteArray → Int → Int
  | [], _, _ => -1
  | x :: r, s, i => if sameS x.g s = true then i else findFrom r s (i + 1)
def findN (L : List Lne) (s : ByteArray) : Int := findFrom L s 0
theorem sameS_iff {s t : ByteArray} : sameS s t = true ↔ s.data.toList = t.data.toList := by
  unfold sameS
  rw [beq_iff_eq]
  simp [ByteArray.toList_eq]
theorem findFrom_mem (L : List Lne) (s : ByteArray) : ∀ i : Int, 0 ≤ i → (decide (0 ≤ findFrom L s i) = decide (s.data.toList ∈ namesN L)) := by
  induction L with
  | nil => intro i hi; simp [findFrom, namesN]
  | cons x r ih =>
    intro i hi
    unfold findFrom
    by_cases h : sameS x.g s = true
    · rw [if_pos h, decide_eq_true hi]
      have := sameS_iff.1 h
      simp [namesN, this]
    · rw [if_neg h, ih (i + 1) (by omega)]
      have : ¬ s.data.toList = x.g.data.toList := fun e => h (sameS_iff.2 e.symm)
      simp [namesN, this]
set_option maxRecDepth 100000 in
set_option maxHeartbeats 800000 in
theorem c_rfind (a : Option Addr) (n c : Nat) (L : List Lne) (s : ByteArray) (w : World) (hn : L.length = n) (hm : n ≤ 9223372036854775807) (hr : Rd w a (flat cN L)) :
    Calls Tryd.prog 62 #[.slice a n c, .string s] w fun e w' => e = .returned (.int .i64 (findN L s)) ∧ w = w' := by
  have HR := Lib.hid hr
  have HN := Lib.hid hn
  clear hr hn
  go_enter Tryd.func62, Tryd.ntmps62
  go_wp2
  go_loop [5] (fun x => ∃ k : Nat, x = .int .i64 k ∧ k ≤ n ∧ Hid (findN L s = findFrom (L.drop k) s k)) (fun x => n - (intOf x).toNat)
  case atStart => exact ⟨0, rfl, by omega, rfl⟩
  case round =>
    obtain ⟨k, rfl, hk, hF⟩ := hrel
    by_cases hlt : k < n
    · have hkL : k < L.length := by rw [HN.out]; exact hlt
      obtain ⟨b, o, rfl, hb, c0, c1, c2⟩ := line_at HR.out k hkL
      have hd := hF.out
      rw [List.drop_eq_getElem_cons hkL] at hd
      unfold findFrom at hd
      generalize L[k] = p at *
      obtain ⟨pg, pc, pp⟩ := p
      simp only at c0 c1 c2 hd
      by_cases hs : sameS pg s = true
      · rw [if_pos hs] at hd
        obtain ⟨t1, t2⟩ := sameS_spell hs
        have HD := Lib.hid hd
        clear hd hs hF
        go_wp2
        go_ret
        exact ⟨ret_i HD.out.symm, rfl⟩
      · rw [if_neg hs] at hd
        have hs2 : sameS pg s = false := by simpa using hs
        obtain ⟨t1, t2⟩ := sameS_spell hs2
        have HD := Lib.hid hd
        clear hd hs hs2 hF
        go_wp2
        go_round
        case rel => exact ⟨k + 1, by go_num, by omega, HD.out⟩
        case measure => simp [intOf]; omega
    · obtain rfl : k = n := by omega
      have hd := hF.out
      rw [List.drop_of_length_le (by rw [HN.out]; exact Nat.le_refl _)] at hd
      have HD := Lib.hid (show findN L s = -1 from hd)
      clear hd hF
      go_wp2
      go_ret
      exact ⟨ret_i HD.out.symm, rfl⟩
set_option maxHeartbeats 400000 in
theorem c_rheld (u : Int) (w : World) : Calls Tryd.prog 46 #[.int .i64 u] w fun e w' => e = .returned (.tuple #[.int .i64 (if 1099511627776 < u then 0 else u), .int .i64 (if 1099511627776 < u then 3 else 0)]) ∧ w = w' := by
  by_cases h : 1099511627776 < u
  · rw [if_pos h, if_pos h]
    go_enter Tryd.func46, Tryd.ntmps46
    go_wp2
    go_ret2
    exact ⟨rfl, rfl⟩
  · rw [if_neg h, if_neg h]
    go_enter Tryd.func46, Tryd.ntmps46
    go_wp2
    go_ret2
    exact ⟨rfl, rfl⟩

set_option maxRecDepth 100000 in
set_option maxHeartbeats 12800000 in
theorem c_rordmay (o : Ord) (w : World) (ho : OrdOk w o) : Calls Tryd.prog 45 #[o.v] w fun e w' => e = .returned (.bool o.may) ∧ Below w.heap.size w w' := by
  obtain ⟨M, hM⟩ : ∃ M, M = o.may := ⟨_, rfl⟩
  rw [← hM]
  unfold Ord.may at hM
  have HO := Lib.hid ho
  have HC := fun w => c_rcurr o.cu w ho.h3
  have HNm := Lib.hid (fun k hk w => c_rname (o.names[k]'hk) w (names_size ho k hk))
  unfold Ord.v
  have BK := Lib.hid ((Blk.new w 33 #[.string o.nu, .string o.se, .string o.bu, .string o.cu, .string o.fr, .string o.tt, .int .i64 o.term, .slice o.la o.ln o.lc]).alloc (.cells #[.string o.nu, .string o.se, .string o.bu, .string o.fr, .string o.tt] 9))
  have BS := Lib.hid (Blk.at (w.alloc (.cells #[.string o.nu, .string o.se, .string o.bu, .string o.cu, .string o.fr, .string o.tt, .int .i64 o.term, .slice o.la o.ln o.lc] 33)) 9 #[.string o.nu, .string o.se, .string o.bu, .string o.fr, .string o.tt] (n := w.heap.size + 1) (by simp))
  have HB0 := Lib.hid (((Below.refl w.heap.size w).alloc (Nat.le_refl _) (.cells #[.string o.nu, .string o.se, .string o.bu, .string o.cu, .string o.fr, .string o.tt, .int .i64 o.term, .slice o.la o.ln o.lc] 33)).alloc (by simp) (.cells #[.string o.nu, .string o.se, .string o.bu, .string o.fr, .string o.tt] 9))
  have hlm := ho.hm
  have hlc := ho.hc
  clear ho
  go_enter Tryd.func45, Tryd.ntmps45
  go_wp2
  generalize hwa : (w.alloc (.cells #[.string o.nu, .string o.se, .string o.bu, .string o.cu, .string o.fr, .string o.tt, .int .i64 o.term, .slice o.la o.ln o.lc] 33)).alloc (.cells #[.string o.nu, .string o.se, .string o.bu, .string o.fr, .string o.tt] 9) = wa at *
  obtain ⟨g, hg⟩ : ∃ g, g = w.heap.size := ⟨_, rfl⟩
  rw [← hg] at BK BS ⊢
  have HG := Lib.hid hg
  have HM := Lib.hid hM
  clear hwa hg hM
  go_loop [4] (fun x => ∃ k : Nat, x = .int .i64 k ∧ k ≤ 5 ∧ Hid ((o.names.take k).all nameB = true)) (fun x => 5 - (intOf x).toNat)
  case atStart => exact ⟨0, rfl, by omega, rfl⟩
  case round =>
    obtain ⟨k, rfl, hk, hA⟩ := hrel
    by_cases hlt : k < 5
    · have hc := BS.out.cell k (names_get o k hlt)
      have hts := all_take_succ o.names k hlt
      rw [hA.out, Bool.true_and] at hts
      have hnm := fun w => HNm.out k hlt w
      have hfull := Lib.hid (fun (h : (o.names.take (k + 1)).all nameB = false) => (show o.names.all nameB = false from by
        cases hx : o.names.all nameB
        · rfl
        · rw [List.all_eq_true] at hx
          rw [List.all_eq_false] at h
          obtain ⟨y, hy, h2⟩ := h
          exact absurd (hx y (List.mem_of_mem_take hy)) h2))
      generalize o.names[k]'hlt = s at *
      have hki : (k : Int) < 5 := by omega
      cases hb : nameB s
      · rw [hb] at hnm hts
        have HF := Lib.hid (show M = false by rw [HM.out, hfull.out hts]; rfl)
        have HNm1 := Lib.hid hnm
        clear hts hnm hb
        go_wp2_with (go_at_call 43; (with_reducible refine (HNm1.out _).mono ?_); rintro e w' ⟨rfl, rfl⟩)
        go_ret
        exact ⟨ret_b HF.out.symm, HB0.out⟩
      · rw [hb] at hnm hts
        have HT := Lib.hid hts
        have HNm1 := Lib.hid hnm
        clear hts hnm hb
        go_wp2_with (go_at_call 43; (with_reducible refine (HNm1.out _).mono ?_); rintro e w' ⟨rfl, rfl⟩)
        go_round
        case rel => exact ⟨k + 1, by go_num, by omega, HT.out⟩
        case measure => simp [intOf]; omega
    · obtain rfl : k = 5 := by omega
      have hall : o.names.all nameB = true := by
        have := hA.out
        rw [List.take_of_length_le (by show 5 ≤ 5; omega)] at this
        exact this
      have hM2 := HM.out
      rw [hall, Bool.true_and] at hM2
      clear HM hA hall HNm
      have k0 := BK.out.cell 0 rfl
      have k1 := BK.out.cell 1 rfl
      have k2 := BK.out.cell 2 rfl
      have k3 := BK.out.cell 3 rfl
      have k4 := BK.out.cell 4 rfl
      have k5 := BK.out.cell 5 rfl
      have k6 := BK.out.cell 6 rfl
      have k7 := BK.out.cell 7 rfl
      have hlnb : linesB o.L = (linesGo [] o.L && decide (1 ≤ o.ln ∧ o.ln ≤ 64)) := by unfold linesB; rw [HO.out.hl]
      cases hs : sameS o.se o.bu
      · obtain ⟨t1, t2⟩ := sameS_spell hs
        cases hc : currB o.cu
        · rw [hc] at HC
          have HF := Lib.hid (show M = false by rw [hM2, hc]; simp)
          have HC := Lib.hid HC
          clear hM2 hs hc
          go_wp2_with (go_at_call 61; (with_reducible refine (HC.out _).mono ?_); rintro e w' ⟨rfl, rfl⟩)
          go_ret
          exact ⟨ret_b HF.out.symm, HB0.out⟩
        · rw [hc] at HC
          by_cases h0 : 0 ≤ o.term
          · by_cases h1 : o.term ≤ 7
            · by_cases h2 : 1 ≤ o.ln
              · by_cases h3 : o.ln ≤ 64
                · have h2i : (1 : Int) ≤ o.ln := by omega
                  have h3i : (o.ln : Int) ≤ 64 := by omega
                  rw [hs, hc, show termB o.term = true from decide_eq_true ⟨h0, h1⟩, hlnb, decide_eq_true ⟨h2, h3⟩, Bool.and_true] at hM2
                  have hM3 : M = linesGo [] o.L := by rw [hM2]; simp
                  have HM := Lib.hid hM3
                  have HC := Lib.hid HC
                  clear hM2 hM3 hs hc hlnb
                  go_wp2_with (go_at_call 61; (with_reducible refine (HC.out _).mono ?_); rintro e w' ⟨rfl, rfl⟩)
                  have HRa := Lib.hid (HO.out.hr.below HB0.out)
                  have HSz := Lib.hid HO.out.hs
                  have HLen := Lib.hid HO.out.hl
                  clear k0 k1 k2 k3 k4 k5 k6 k7 HC
                  have hgl := BK.out.lt
                  go_loopw [5] (fun x wr => ∃ k : Nat, x = .int .i64 k ∧ k ≤ o.ln ∧ Hid (linesGo [] o.L = linesGo (namesN (o.L.take k)) (o.L.drop k)) ∧ Hid (Below wa.heap.size wa wr)) (fun x _ => o.ln - (intOf x).toNat)
                  case atStart => exact ⟨0, rfl, by omega, by show _ = _; simp [namesN], Below.refl _ _⟩
                  case round =>
                    obtain ⟨k, rfl, hk, hG, hB⟩ := hrel
                    have k7 := (BK.out.below hB.out hgl).cell 7 rfl
                    have hz := hB.out.size
                    by_cases hlt : k < o.ln
                    · have hkL : k < o.L.length := by rw [HLen.out]; exact hlt
                      obtain ⟨b, off, hla, hb, c0, c1, c2⟩ := line_at (HRa.out.below hB.out) k hkL
                      have hst := linesGo_step o.L k hkL
                      rw [← hG.out] at hst
                      have hsz := HSz.out o.L[k] (List.getElem_mem hkL)
                      have hrt : Rd wr o.la (flat cN (o.L.take k)) := by
                        have h := HRa.out.below hB.out
                        intro hne
                        obtain ⟨b', o', e', hb', hr'⟩ := h (fun e => hne (by
                          have h1 := flat_length cN_length o.L
                          rw [e] at h1
                          simp at h1
                          have : o.L = [] := List.eq_nil_of_length_eq_zero (by omega)
                          rw [this]; simp [flat]))
                        refine ⟨b', o', e', hb', fun j v hv => hr' j v ?_⟩
                        rw [← List.take_append_drop k o.L, flat_append]
                        rw [List.getElem?_append_left (List.getElem?_eq_some_iff.1 hv).1]
                        exact hv
                      rw [hla] at hrt k7
                      clear hla
                      have hfd := fun (wx : World) (hr : Rd wx (some ⟨b, off, none⟩) (flat cN (o.L.take k))) (s : ByteArray) => c_rfind (some ⟨b, off, none⟩) k o.lc (o.L.take k) s wx (by rw [List.length_take]; omega) (by omega) hr
                      have hfm := fun s : ByteArray => findFrom_mem (o.L.take k) s 0 (by omega)
                      have hgs := Lib.hid (hrt.alloc (.cells #[.string o.L[k].g, .int .i64 o.L[k].c, .int .i64 o.L[k].p] 44))
                      generalize o.L[k] = p at *
                      obtain ⟨s, v, pr⟩ := p
                      simp only at c0 c1 c2 hst hsz hgs
                      have hfd1 := fun (wx : World) hr => hfd wx hr s
                      have hfm1 := hfm s
                      have hnm := fun w => c_rname s w hsz
                      have HST := Lib.hid hst
                      unfold findN at hfd1
                      generalize hfr : findFrom (o.L.take k) s 0 = r at *
                      have HBn := Lib.hid (hB.out.alloc hz (.cells #[.string s, .int .i64 v, .int .i64 pr] 44))
                      have hkc : k ≤ o.lc := by omega
                      have hkci : (k : Int) ≤ o.lc := by omega
                      have HFd := Lib.hid hfd1
                      have HFm := Lib.hid hfm1
                      have hgl2 : g < wr.heap.size := by omega
                      clear hst hfd hfm hfr hrt hsz hfd1 hfm1
                      cases hnb : nameB s
                      · rw [hnb] at hnm
                        have HNm := Lib.hid hnm
                        have HNb := Lib.hid hnb
                        clear hnm hnb
                        have HF := Lib.hid (show M = false by rw [HM.out, HST.out, HNb.out]; simp)
                        clear HST hG
                        go_wp2
                        go_big_quiet ((first | (go_at_call 43; exact quiet_left0 (HNm.out _)) | (go_at_call 62; exact quiet_left0 (HFd.out _ (hgs.out.drewN _)))))
                        go_wp2
                        go_ret
                        exact ⟨ret_b HF.out.symm, HB0.out.trans ((below_drewN HBn.out _).mono HB0.out.size)⟩
                      · rw [hnb] at hnm
                        have HNm := Lib.hid hnm
                        have HNb := Lib.hid hnb
                        clear hnm hnb
                        cases hin : decide (s.data.toList ∈ namesN (o.L.take k))
                        · have tr : decide (0 ≤ r) = false := HFm.out.trans hin
                          have HIn := Lib.hid hin
                          clear hin HFm
                          by_cases a0 : v < 1
                          · have a0t : decide (v < 1) = true := decide_eq_true a0
                            have HX := Lib.hid (show cntB v = false from decide_eq_false (fun h => by omega))
                            have HF := Lib.hid (show M = false by rw [HM.out, HST.out, HX.out]; simp)
                            clear HST hG
                            go_wp2
                            go_big_quiet ((first | (go_at_call 43; exact quiet_left0 (HNm.out _)) | (go_at_call 62; exact quiet_left0 (HFd.out _ (hgs.out.drewN _)))))
                            go_wp2
                            go_ret
                            exact ⟨ret_b HF.out.symm, HB0.out.trans ((below_drewN HBn.out _).mono HB0.out.size)⟩
                          · have a0t : decide (v < 1) = false := decide_eq_false a0
                            by_cases a1 : 1048576 < v
                            · have a1t : decide (1048576 < v) = true := decide_eq_true a1
                              have HX := Lib.hid (show cntB v = false from decide_eq_false (fun h => by omega))
                              have HF := Lib.hid (show M = false by rw [HM.out, HST.out, HX.out]; simp)
                              clear HST hG
                              go_wp2
                              go_big_quiet ((first | (go_at_call 43; exact quiet_left0 (HNm.out _)) | (go_at_call 62; exact quiet_left0 (HFd.out _ (hgs.out.drewN _)))))
                              go_wp2
                              go_ret
                              exact ⟨ret_b HF.out.symm, HB0.out.trans ((below_drewN HBn.out _).mono HB0.out.size)⟩
                            · have a1t : decide (1048576 < v) = false := decide_eq_false a1
                              by_cases a2 : pr < 0
                              · have a2t : decide (pr < 0) = true := decide_eq_true a2
                                have HX := Lib.hid (show prcB pr = false from decide_eq_false (fun h => by omega))
                                have HF := Lib.hid (show M = false by rw [HM.out, HST.out, HX.out]; simp)
                                clear HST hG
                                go_wp2
                                go_big_quiet ((first | (go_at_call 43; exact quiet_left0 (HNm.out _)) | (go_at_call 62; exact quiet_left0 (HFd.out _ (hgs.out.drewN _)))))
                                go_wp2
                                go_ret
                                exact ⟨ret_b HF.out.symm, HB0.out.trans ((below_drewN HBn.out _).mono HB0.out.size)⟩
                              · have a2t : decide (pr < 0) = false := decide_eq_false a2
                                by_cases a3 : 1073741824 < pr
                                · have a3t : decide (1073741824 < pr) = true := decide_eq_true a3
                                  have HX := Lib.hid (show prcB pr = false from decide_eq_false (fun h => by omega))
                                  have HF := Lib.hid (show M = false by rw [HM.out, HST.out, HX.out]; simp)
                                  clear HST hG
                                  go_wp2
                                  go_big_quiet ((first | (go_at_call 43; exact quiet_left0 (HNm.out _)) | (go_at_call 62; exact quiet_left0 (HFd.out _ (hgs.out.drewN _)))))
                                  go_wp2
                                  go_ret
                                  exact ⟨ret_b HF.out.symm, HB0.out.trans ((below_drewN HBn.out _).mono HB0.out.size)⟩
                                · have a3t : decide (1073741824 < pr) = false := decide_eq_false a3
                                  have HX := Lib.hid (show cntB v = true from decide_eq_true (by omega))
                                  have HY := Lib.hid (show prcB pr = true from decide_eq_true (by omega))
                                  have HG2 := Lib.hid (show linesGo [] o.L = linesGo (namesN (o.L.take (k + 1))) (o.L.drop (k + 1)) by rw [HST.out, HNb.out, HIn.out, HX.out, HY.out]; simp)
                                  clear HST hG
                                  go_wp2
                                  go_big_quiet ((first | (go_at_call 43; exact quiet_left0 (HNm.out _)) | (go_at_call 62; exact quiet_left0 (HFd.out _ (hgs.out.drewN _)))))
                                  go_wp2
                                  go_roundw
                                  case rel => exact ⟨k + 1, by go_num, by omega, HG2.out, below_drewN HBn.out _⟩
                                  case measure => simp [intOf]; omega
                        · have tr : decide (0 ≤ r) = true := HFm.out.trans hin
                          have HIn := Lib.hid hin
                          clear hin HFm
                          have HF := Lib.hid (show M = false by rw [HM.out, HST.out, HIn.out]; simp)
                          clear HST hG
                          go_wp2
                          go_big_quiet ((first | (go_at_call 43; exact quiet_left0 (HNm.out _)) | (go_at_call 62; exact quiet_left0 (HFd.out _ (hgs.out.drewN _)))))
                          go_wp2
                          go_ret
                          exact ⟨ret_b HF.out.symm, HB0.out.trans ((below_drewN HBn.out _).mono HB0.out.size)⟩
                    · obtain rfl : k = o.ln := by omega
                      have h9 := hG.out
                      rw [List.drop_of_length_le (by rw [HLen.out]; exact Nat.le_refl _)] at h9
                      have HF := Lib.hid (show M = true by rw [HM.out, h9]; rfl)
                      clear h9 hG
                      go_wp2
                      go_ret
                      exact ⟨ret_b HF.out.symm, HB0.out.trans (hB.out.mono HB0.out.size)⟩
                · have h3i : (64 : Int) < o.ln := by omega
                  have HF := Lib.hid (show M = false by rw [hM2, hlnb, decide_eq_false (fun h => h3 h.2)]; simp)
                  have HC := Lib.hid HC
                  clear hM2 hs hc
                  go_wp2_with (go_at_call 61; (with_reducible refine (HC.out _).mono ?_); rintro e w' ⟨rfl, rfl⟩)
                  go_ret
                  exact ⟨ret_b HF.out.symm, HB0.out⟩
              · have h2i : (o.ln : Int) < 1 := by omega
                have HF := Lib.hid (show M = false by rw [hM2, hlnb, decide_eq_false (fun h => h2 h.1)]; simp)
                have HC := Lib.hid HC
                clear hM2 hs hc
                go_wp2_with (go_at_call 61; (with_reducible refine (HC.out _).mono ?_); rintro e w' ⟨rfl, rfl⟩)
                go_ret
                exact ⟨ret_b HF.out.symm, HB0.out⟩
            · skip
              have HF := Lib.hid (show M = false by rw [hM2, show termB o.term = false from decide_eq_false fun h => h1 h.2]; simp)
              have HC := Lib.hid HC
              clear hM2 hs hc
              go_wp2_with (go_at_call 61; (with_reducible refine (HC.out _).mono ?_); rintro e w' ⟨rfl, rfl⟩)
              go_ret
              exact ⟨ret_b HF.out.symm, HB0.out⟩
          · skip
            have HF := Lib.hid (show M = false by rw [hM2, show termB o.term = false from decide_eq_false fun h => h0 h.1]; simp)
            have HC := Lib.hid HC
            clear hM2 hs hc
            go_wp2_with (go_at_call 61; (with_reducible refine (HC.out _).mono ?_); rintro e w' ⟨rfl, rfl⟩)
            go_ret
            exact ⟨ret_b HF.out.symm, HB0.out⟩
      · obtain ⟨t1, t2⟩ := sameS_spell hs
        have HF := Lib.hid (show M = false by rw [hM2, hs]; simp)
        clear hM2 hs  HC
        go_wp2
        go_ret
        exact ⟨ret_b HF.out.symm, HB0.out⟩

set_option maxRecDepth 100000 in
set_option maxHeartbeats 3200000 in
theorem c_rordtotal (o : Ord) (w : World) (ho : OrdOk w o) : Calls Tryd.prog 33 #[o.v] w fun e w' => e = .returned (.tuple #[.int .i64 (totN o), .int .i64 (totE o)]) ∧ Below w.heap.size w w' := by
  have HM := fun w ho => c_rordmay o w ho
  have HO := Lib.hid ho
  have BK := Lib.hid (Blk.new w 33 #[.string o.nu, .string o.se, .string o.bu, .string o.cu, .string o.fr, .string o.tt, .int .i64 o.term, .slice o.la o.ln o.lc])
  have HB0 := Lib.hid ((Below.refl w.heap.size w).alloc (Nat.le_refl _) (.cells #[.string o.nu, .string o.se, .string o.bu, .string o.cu, .string o.fr, .string o.tt, .int .i64 o.term, .slice o.la o.ln o.lc] 33))
  obtain ⟨E, hE⟩ : ∃ E, E = totE o := ⟨_, rfl⟩
  obtain ⟨N, hN⟩ : ∃ N, N = totN o := ⟨_, rfl⟩
  rw [← hE, ← hN]
  unfold totN at hN
  rw [← hE] at hN
  unfold totE at hE
  clear ho
  unfold Ord.v at HM ⊢
  cases hm : o.may
  · rw [hm] at HM hE
    rw [if_neg (by decide)] at hE
    subst hE
    rw [if_neg (by decide)] at hN
    subst hN
    have HM := Lib.hid HM
    clear hm
    go_enter Tryd.func33, Tryd.ntmps33
    go_wp2_with fail
    refine (HM.out _ (HO.out.below HB0.out)).mono ?_
    rintro e w1 ⟨rfl, hb1⟩
    have HB1 := Lib.hid (HB0.out.trans (hb1.mono HB0.out.size))
    clear hb1
    go_wp2_with fail
    go_ret2
    exact ⟨rfl, HB1.out⟩
  · obtain ⟨hf, l0, l1⟩ := linesB_facts (Ord.may_lines hm)
    rw [hm] at HM hE
    rw [if_pos rfl] at hE
    have HM := Lib.hid HM
    have HBd := Lib.hid (fun k => sumW_bd (L := o.L.take k) (fun x hx => (hf x (List.mem_of_mem_take hx)).2.2))
    have HF := Lib.hid hf
    have HE := Lib.hid hE
    have HNN := Lib.hid hN
    have hln := HO.out.hl
    rw [hln] at l0 l1
    have HLn := Lib.hid hln
    clear hm hf hE hN hln
    go_enter Tryd.func33, Tryd.ntmps33
    go_wp2_with fail
    refine (HM.out _ (HO.out.below HB0.out)).mono ?_
    rintro e w1 ⟨rfl, hb1⟩
    have HB1 := Lib.hid (HB0.out.trans (hb1.mono HB0.out.size))
    have BK1 := Lib.hid (BK.out.below hb1 BK.out.lt)
    have HR1 := Lib.hid (HO.out.hr.below HB1.out)
    clear hb1
    go_wp2_with fail
    go_loopw [4, 5] (fun s x wr => ∃ (k : Nat) (u : Int), s = .int .i64 u ∧ x = .int .i64 k ∧ k ≤ o.ln ∧ 0 ≤ u ∧ u ≤ 72057594037927936 ∧ Hid (u = sumW (o.L.take k)) ∧ ∃ q, wr = w1.drewN q) (fun _ x _ => o.ln - (intOf x).toNat)
    case atStart => exact ⟨0, 0, rfl, rfl, by omega, by omega, by omega, rfl, 0, rfl⟩
    case round =>
      obtain ⟨k, u, rfl, rfl, hk, u0, u1, hu, q, rfl⟩ := hrel
      have k7 := (BK1.out.drewN q).cell 7 rfl
      have HWr := Lib.hid (fun nq => World.drewN_drewN w1 q nq)
      have HBq := Lib.hid (below_drewN HB1.out q)
      have HRq := Lib.hid (HR1.out.drewN q)
      by_cases hlt : k < o.ln
      · have hkL : k < o.L.length := by rw [HLn.out]; exact hlt
        obtain ⟨b, off, hla, hb, c0, c1, c2⟩ := line_at HRq.out k hkL
        have hts := sumW_take_succ o.L k hkL
        have hbd := HBd.out (k + 1)
        rw [List.length_take] at hbd
        have HS := Lib.hid (show u + worth o.L[k] = sumW (o.L.take (k + 1)) by rw [hts, hu.out])
        have hle : 0 ≤ u + worth o.L[k] ∧ u + worth o.L[k] ≤ 72057594037927936 := by rw [HS.out]; omega
        obtain ⟨l2, l3⟩ := hle
        have hw := (HF.out _ (List.getElem_mem hkL)).2.2
        clear hts hbd
        generalize o.L[k] = p at *
        generalize w1.drewN q = wr at *
        obtain ⟨pg, pc, pp⟩ := p
        unfold worth at HS l2 l3 hw
        simp only at c0 c1 c2 l2 l3 HS hw
        obtain ⟨q0, q1⟩ := hw
        have e0 : IntKind.i64.wrap (pc * pp) = pc * pp := IntWalk.i64_in _ (by omega)
        have e1 : IntKind.i64.wrap (u + pc * pp) = u + pc * pp := IntWalk.i64_in _ (by omega)
        rw [hla] at k7
        go_wp2
        go_quiet (fail)
        go_wp2
        go_roundw
        case rel => exact ⟨k + 1, u + pc * pp, rfl, by go_num, by omega, by omega, by omega, HS.out, _, HWr.out _⟩
        case measure => simp [intOf]; omega
      · obtain rfl : k = o.ln := by omega
        have h1 := hu.out
        rw [List.take_of_length_le (by rw [HLn.out]; exact Nat.le_refl _)] at h1
        have h2 := HE.out
        rw [← h1] at h2
        have h3 := HNN.out
        rw [← h1] at h3
        have hh := fun w => c_rheld u w
        by_cases hbig : 1099511627776 < u
        · have hE3 : E = 3 := by rw [h2, if_pos hbig]
          have HQ := Lib.hid (And.intro hE3 (show N = 0 by rw [h3, if_neg (by rw [hE3]; decide)]))
          rw [if_pos hbig, if_pos hbig] at hh
          have HH := Lib.hid hh
          clear h1 h2 h3 hu hE3 hh
          go_wp2_with (go_at_call 46; (with_reducible refine (HH.out _).mono ?_); rintro e w' ⟨rfl, rfl⟩)
          go_ret2
          rw [HQ.out.1, HQ.out.2]
          exact ⟨rfl, HBq.out⟩
        · have hE3 : E = 0 := by rw [h2, if_neg hbig]
          have HQ := Lib.hid (And.intro hE3 (show N = u by rw [h3, if_pos hE3]))
          rw [if_neg hbig, if_neg hbig] at hh
          have HH := Lib.hid hh
          clear h1 h2 h3 hu hE3 hh
          go_wp2_with (go_at_call 46; (with_reducible refine (HH.out _).mono ?_); rintro e w' ⟨rfl, rfl⟩)
          go_ret2
          rw [HQ.out.1, HQ.out.2]
          exact ⟨rfl, HBq.out⟩

end Go.Proofs.YtdkabldhkgidjaaDoor
