/-
  cost.Each: its walk.
-/
import Derived.Test.YtdkabldhkgidjaaDoorCost4
import Derived.Test.YtdkabldhkgidjaaDoorErrFits
import Derived.Test.YtdkabldhkgidjaaDoorSplit
import Derived.Test.YtdkabldhkgidjaaDoorSplitLaw
namespace Go.Proofs.YtdkabldhkgidjaaDoor
set_option linter.unusedVariables false
set_option linter.unusedSimpArgs false
open Go.RowKit

/-- What lines weigh. -/
def wgtO (o : Ord) (x : Lne) : Int := if totN o = 0 then x.c else worth x
def mixE (P W : List Int) (k : Nat) : List Int := (List.range P.length).map fun i => if i < k then P.getD i 0 + W.getD i 0 else P.getD i 0
theorem mixE_zero (P W : List Int) : mixE P W 0 = P := by
  unfold mixE
  refine List.ext_getElem (by simp) fun i h1 h2 => ?_
  simp [h2]
theorem mixE_length (P W : List Int) (k : Nat) : (mixE P W k).length = P.length := by simp [mixE]
theorem mixE_at (P W : List Int) (k : Nat) (h : k < P.length) : (mixE P W k).getD k 0 = P.getD k 0 := by simp [mixE, h]
theorem mixE_step (P W : List Int) (k : Nat) (h : k < P.length) : (mixE P W k).set k (P.getD k 0 + W.getD k 0) = mixE P W (k + 1) := by
  unfold mixE
  refine List.ext_getElem (by simp) fun i h1 h2 => ?_
  rw [List.getElem_set]
  by_cases e : k = i
  · subst e; simp
  · rw [if_neg e]
    simp only [List.getElem_map, List.getElem_range]
    by_cases h3 : i < k
    · rw [if_pos h3, if_pos (by omega)]
    · rw [if_neg h3, if_neg (by omega)]
def eachP (o : Ord) (L : List Cst) : List Int := mixE (partsOf (landC o L) (o.L.map (wgtO o))) (o.L.map worth) o.L.length
theorem sumW_map (l : List Lne) : sumL (l.map worth) = sumW l := by
  induction l with
  | nil => rfl
  | cons x r ih => simp [sumL, sumW, ih]
theorem worth_le {l : List Lne} (h : ∀ x ∈ l, 0 ≤ worth x) : ∀ x ∈ l, worth x ≤ sumW l := by
  induction l with
  | nil => intro x hx; cases hx
  | cons y r ih =>
    have h0 : 0 ≤ sumW r := by
      have : ∀ l : List Lne, (∀ x ∈ l, 0 ≤ worth x) → 0 ≤ sumW l := by
        intro l hl
        induction l with
        | nil => simp [sumW]
        | cons z q ih2 =>
          have a1 := hl z (by simp)
          have a2 := ih2 (fun x hx => hl x (List.mem_cons_of_mem _ hx))
          simp only [sumW]; omega
      exact this r (fun x hx => h x (List.mem_cons_of_mem _ hx))
    have hy := h y (by simp)
    intro x hx
    simp only [sumW]
    rcases List.mem_cons.1 hx with rfl | hx
    · omega
    · have := ih (fun x hx => h x (List.mem_cons_of_mem _ hx)) x hx; omega
theorem landE_zero {o : Ord} {L : List Cst} (h : landE o L = 0) : totE o = 0 ∧ splitE o.term L = 0 ∧ landT o L = totN o ∧ landC o L = buyS o L ∧ 0 ≤ landC o L ∧ landC o L ≤ 1099511627776 := by
  have hT : landT o L = totN o := by unfold landT; rw [if_pos h]
  have hC : landC o L = buyS o L := by unfold landC; rw [if_pos h]
  have hb := land_bd o L
  have h1 : totE o = 0 := by
    unfold landE at h
    by_cases h1 : totE o = 0
    · exact h1
    · rw [if_neg h1] at h; exact h
  have h2 : splitE o.term L = 0 := by
    unfold landE at h
    rw [if_pos h1] at h
    by_cases h2 : splitE o.term L = 0
    · exact h2
    · rw [if_neg h2] at h; exact h
  obtain ⟨-, t0, t1, t2⟩ := totE_zero h1
  have hc := sumC_bd (ofC_am (t := o.term) (b := true) (splitE_zero h2).2.1)
  have hcc : 0 ≤ landC o L := by rw [hC]; unfold buyS; exact hc.1
  exact ⟨h1, h2, hT, hC, hcc, by rw [hT] at hb; omega⟩
theorem wgt_facts {o : Ord} (h : totE o = 0) : (∀ x ∈ o.L.map (wgtO o), 0 ≤ x ∧ x ≤ 1099511627776) ∧ 0 < sumL (o.L.map (wgtO o)) ∧ (∀ x ∈ o.L.map worth, 0 ≤ x ∧ x ≤ 1099511627776) := by
  obtain ⟨hm, t0, t1, t2⟩ := totE_zero h
  obtain ⟨hf, l0, l1⟩ := linesB_facts (Ord.may_lines hm)
  have hw : ∀ x ∈ o.L, 0 ≤ worth x ∧ worth x ≤ 1099511627776 := fun x hx => by
    have := worth_le (fun x hx => (hf x hx).2.2.1) x hx
    have := (hf x hx).2.2.1
    omega
  have hw2 : ∀ x ∈ o.L.map worth, 0 ≤ x ∧ x ≤ 1099511627776 := fun x hx => by
    obtain ⟨y, hy, rfl⟩ := List.mem_map.1 hx
    exact hw y hy
  by_cases h0 : totN o = 0
  · have e : o.L.map (wgtO o) = o.L.map Lne.c := List.map_congr_left fun x _ => by unfold wgtO; rw [if_pos h0]
    rw [e]
    have hc : ∀ x ∈ o.L.map Lne.c, 1 ≤ x ∧ x ≤ 1099511627776 := fun x hx => by
      obtain ⟨y, hy, rfl⟩ := List.mem_map.1 hx
      have := (hf y hy).1
      unfold cntB at this
      simp only [decide_eq_true_eq] at this
      omega
    refine ⟨fun x hx => by have := hc x hx; omega, ?_, hw2⟩
    obtain ⟨x, hx⟩ : ∃ x, x ∈ o.L := by
      cases hl : o.L with
      | nil => rw [hl] at l0; simp at l0
      | cons y r => exact ⟨y, by simp⟩
    exact sum_pos (fun x hx => by have := hc x hx; omega) ⟨x.c, List.mem_map.2 ⟨x, hx, rfl⟩, by have := hc x.c (List.mem_map.2 ⟨x, hx, rfl⟩); omega⟩
  · have e : o.L.map (wgtO o) = o.L.map worth := List.map_congr_left fun x _ => by unfold wgtO; rw [if_neg h0]
    rw [e]
    refine ⟨hw2, ?_, hw2⟩
    rw [sumW_map]
    omega
theorem each_err {o : Ord} {L : List Cst} (h : landE o L = 0) : errS (landC o L) (o.L.map (wgtO o)) = 0 := by
  obtain ⟨h1, h2, hT, hC, c0, c1⟩ := landE_zero h
  obtain ⟨w0, w1, -⟩ := wgt_facts h1
  obtain ⟨hm, -⟩ := totE_zero h1
  obtain ⟨-, l0, l1⟩ := linesB_facts (Ord.may_lines hm)
  rw [errS_fits w0 (by rw [List.length_map]; omega) (by rw [List.length_map]; omega) _ c0 (fun _ => sum_posex w1), if_neg (by omega)]
theorem parts_length (T : Int) (zs : List Int) : (partsOf T zs).length = zs.length := by simp [partsOf]
theorem parts_bd {T : Int} {zs : List Int} (hT : 0 ≤ T) (hz : ∀ x ∈ zs, 0 ≤ x) (hS : 0 < sumL zs) : ∀ x ∈ partsOf T zs, 0 ≤ x ∧ x ≤ T := fun x hx => by
  have h0 := parts_nonneg T zs hT hz
  refine ⟨h0 x hx, ?_⟩
  have h1 := mem_le_sum (partsOf T zs) h0 x hx
  rw [parts_sum T zs hS] at h1
  exact h1
theorem getD_bd {l : List Int} {B : Int} (hB : 0 ≤ B) (h : ∀ x ∈ l, 0 ≤ x ∧ x ≤ B) (k : Nat) : 0 ≤ l.getD k 0 ∧ l.getD k 0 ≤ B := by
  by_cases hk : k < l.length
  · have := h l[k] (List.getElem_mem hk)
    simpa [List.getD_eq_getElem?_getD, hk] using this
  · simp [List.getD_eq_getElem?_getD, List.getElem?_eq_none (Nat.le_of_not_lt hk), hB]
theorem info_i64v : (Tryd.prog.info? 2).map (fun i => (i.zero, i.size, i.bytes)) = some (some (.int .i64 0), 1, 8) := by kernel_rfl
theorem one_int (k : IntKind) (x : Int) : ∀ u ∈ [Value.int k x], u.oneCell' = true := by
  intro u hu
  obtain rfl := List.mem_singleton.1 hu
  rfl
theorem map_take_succ (f : Lne → Int) (l : List Lne) (k : Nat) (h : k < l.length) : vals .i64 ((l.take (k + 1)).map f) = vals .i64 ((l.take k).map f) ++ [.int .i64 (f l[k])] := by
  rw [List.take_succ_eq_append_getElem h, List.map_append]
  simp [vals]
theorem new_one (w : World) (v : Value) (t : TypeId) (j : Nat) (u : Value) (hu : ([v])[j]? = some u) : (w.alloc (.cells #[v] t)).cell? ⟨w.heap.size, 0 + j, none⟩ = some u := by
  rw [Nat.zero_add]
  exact (Blk.new w _ _).cell j (by simpa using hu)
/-- What Each gives. -/
def EachOk (o : Ord) (L : List Cst) (w : World) (e : Ending) (w' : World) : Prop :=
  ∃ b t, e = .returned (.tuple #[.slice (some ⟨b, 0, none⟩) o.ln o.ln, .int .i64 0]) ∧ w.heap.size ≤ b ∧ Below w.heap.size w w' ∧ Blk w' b t (rowI .i64 (eachP o L))

set_option maxRecDepth 100000 in
set_option maxHeartbeats 1600000 in
theorem c_each_bad (o : Ord) (a : Option Addr) (n c : Nat) (L : List Cst) (w : World) (ho : OrdOk w o) (hn : L.length = n) (hm : n ≤ 9223372036854775807) (hr : Rd w a (flat cC L)) (hok : ∀ x ∈ L, CstOk x) (hT : Tab w) (he : landE o L ≠ 0) :
    Calls Tryd.prog 17 #[o.v, .slice a n c] w fun e w' => e = .returned (.tuple #[.slice none 0 0, .int .i64 (landE o L)]) ∧ Below w.heap.size w w' := by
  have HBo := fun w ho hr hT => c_both o a n c L w ho hn hm hr hok hT
  have HO := Lib.hid ho
  have HR := Lib.hid hr
  have HT := Lib.hid hT
  have HB0 := Lib.hid ((Below.refl w.heap.size w).alloc (Nat.le_refl _) (.cells #[.string o.nu, .string o.se, .string o.bu, .string o.cu, .string o.fr, .string o.tt, .int .i64 o.term, .slice o.la o.ln o.lc] 33))
  clear ho hr hT hn hok
  unfold Ord.v at HBo ⊢
  generalize landT o L = T at *
  generalize landC o L = C at *
  generalize landE o L = E at *
  have t4 : (E != 0) = true := by simpa using he
  have HE := Lib.hid he
  have HBo := Lib.hid HBo
  clear he
  go_enter Tryd.func17, Tryd.ntmps17
  go_wp2_with fail
  refine (HBo.out _ (HO.out.below HB0.out) (HR.out.below HB0.out) (HT.out.below HB0.out)).mono ?_
  rintro e w1 ⟨rfl, hb1⟩
  have HB1 := Lib.hid (HB0.out.trans (hb1.mono HB0.out.size))
  clear hb1
  go_wp2_with fail
  go_ret2
  exact ⟨rfl, HB1.out⟩

set_option maxRecDepth 100000 in
set_option maxHeartbeats 6400000 in
theorem c_each (o : Ord) (a : Option Addr) (n c : Nat) (L : List Cst) (w : World) (ho : OrdOk w o) (hn : L.length = n) (hm : n ≤ 9223372036854775807) (hr : Rd w a (flat cC L)) (hok : ∀ x ∈ L, CstOk x) (hT : Tab w) (he : landE o L = 0) :
    Calls Tryd.prog 17 #[o.v, .slice a n c] w (EachOk o L w) := by
  obtain ⟨i0, hi, hz0, hz1, hz2⟩ := info_parts info_i64v
  have HI := Lib.hid hi
  have HZ0 := Lib.hid hz0
  have HZ1 := Lib.hid hz1
  have HZ2 := Lib.hid hz2
  have HBo := fun w ho hr hT => c_both o a n c L w ho hn hm hr hok hT
  rw [he] at HBo
  obtain ⟨e1, e2, hTn, hCn, cc0, cc1⟩ := landE_zero he
  obtain ⟨hmy, t0, t1, t2⟩ := totE_zero e1
  obtain ⟨hf, l0, l1⟩ := linesB_facts (Ord.may_lines hmy)
  obtain ⟨w0, w1', w2'⟩ := wgt_facts e1
  have hln := ho.hl
  rw [hln] at l0 l1
  have herr := each_err he
  have hpb := parts_bd cc0 (fun x hx => (w0 x hx).1) w1'
  have HPb := Lib.hid (fun k => getD_bd cc0 hpb k)
  have HWb := Lib.hid (fun k => getD_bd (by omega) w2' k)
  have HPl := Lib.hid (show (partsOf (landC o L) (o.L.map (wgtO o))).length = o.ln by rw [parts_length, List.length_map, hln])
  have HSp := Lib.hid (fun A c' w hr => c_split (landC o L) A o.ln c' (o.L.map (wgtO o)) w (by rw [List.length_map, hln]) hr herr)
  have HEach : eachP o L = mixE (partsOf (landC o L) (o.L.map (wgtO o))) (o.L.map worth) o.ln := by unfold eachP; rw [hln]
  unfold EachOk
  rw [HEach]
  rw [hTn] at HBo
  have hwg : ∀ x, wgtO o x = if totN o = 0 then x.c else worth x := fun _ => rfl
  have HF := Lib.hid hf
  have HLn := Lib.hid hln
  have HO := Lib.hid ho
  have HR := Lib.hid hr
  have HT := Lib.hid hT
  have BK := Lib.hid (Blk.new w 33 #[.string o.nu, .string o.se, .string o.bu, .string o.cu, .string o.fr, .string o.tt, .int .i64 o.term, .slice o.la o.ln o.lc])
  have HB0 := Lib.hid ((Below.refl w.heap.size w).alloc (Nat.le_refl _) (.cells #[.string o.nu, .string o.se, .string o.bu, .string o.cu, .string o.fr, .string o.tt, .int .i64 o.term, .slice o.la o.ln o.lc] 33))
  clear ho hr hT hn hok he e1 e2 hTn hCn hmy t0 t1 t2 hf w0 w1' w2' hln herr hpb HEach hi hz0 hz1 hz2
  unfold Ord.v at HBo ⊢
  generalize landC o L = C at *
  generalize totN o = T at *
  generalize wgtO o = wf at *
  generalize hPP : partsOf C (o.L.map wf) = PP at *
  clear hPP
  have HBo := Lib.hid HBo
  have HWg := Lib.hid hwg
  clear hwg
  go_enter Tryd.func17, Tryd.ntmps17
  go_wp2_with fail
  refine (HBo.out _ (HO.out.below HB0.out) (HR.out.below HB0.out) (HT.out.below HB0.out)).mono ?_
  rintro e w1 ⟨rfl, hb1⟩
  have HB1 := Lib.hid (HB0.out.trans (hb1.mono HB0.out.size))
  have k7 := (BK.out.below hb1 BK.out.lt).cell 7 rfl
  have HR1 := Lib.hid (HO.out.hr.below HB1.out)
  have hzz := HB1.out.size
  clear hb1 HBo HO HR HT BK HB0
  go_wp2_with fail
  clear k7
  go_loopw [9, 10, 29] (fun y z x wr => ∃ (k : Nat) (A1 : Option Addr) (c1 : Nat) (A2 : Option Addr) (c2 : Nat), y = .slice A1 k c1 ∧ z = .slice A2 k c2 ∧ x = .int .i64 k ∧ k ≤ o.ln ∧ Hid (TwoRows 1 2 w1.heap.size wr A1 k c1 (vals .i64 ((o.L.take k).map worth)) A2 k c2 (vals .i64 ((o.L.take k).map wf))) ∧ Hid (Below w1.heap.size w1 wr)) (fun _ _ x _ => o.ln - (intOf x).toNat)
  case atStart => exact ⟨0, none, 0, none, 0, rfl, rfl, rfl, by omega, TwoRows.nil _ _ _, Below.refl _ _⟩
  case round =>
    obtain ⟨k, A1, c1, A2, c2, rfl, rfl, rfl, hk, hTw, hB⟩ := hrel
    by_cases hlt : k < o.ln
    · have hkL : k < o.L.length := by rw [HLn.out]; exact hlt
      obtain ⟨b, off, hla, hb, d0, d1, d2⟩ := line_at (HR1.out.below hB.out) k hkL
      have HLa := Lib.hid hla
      have hs1 := map_take_succ worth o.L k hkL
      have hs2 := map_take_succ wf o.L k hkL
      have hw := HF.out _ (List.getElem_mem hkL)
      have hwk := HWg.out o.L[k]
      have hz := hB.out.size
      generalize o.L[k] = p at *
      obtain ⟨pg, pc, pp⟩ := p
      obtain ⟨q2, q3, q0, q1⟩ := hw
      rw [show worth ⟨pg, pc, pp⟩ = pc * pp from rfl] at hs1
      unfold worth at q0 q1 hwk
      simp only at d0 d1 d2 q0 q1 q2 hwk
      have e0 : IntKind.i64.wrap (pc * pp) = pc * pp := IntWalk.i64_in _ (by omega)
      generalize hwv : wf ⟨pg, pc, pp⟩ = wv at *
      have HS1 := Lib.hid hs1
      have HS2 := Lib.hid hs2
      have HTw := Lib.hid hTw.out
      clear hs1 hs2 hTw hwv q2 q3
      generalize vals .i64 ((o.L.take k).map worth) = X1 at *
      generalize vals .i64 ((o.L.take k).map wf) = X2 at *
      have BX := Lib.hid ((Blk.new wr 44 #[.string pg, .int .i64 pc, .int .i64 pp]).alloc (.cells #[.int .i64 (pc * pp)] 2))
      have HB2 := Lib.hid ((hB.out.alloc hz (.cells #[.string pg, .int .i64 pc, .int .i64 pp] 44)).alloc (by simp; omega) (.cells #[.int .i64 (pc * pp)] 2))
      have HTw2 := Lib.hid (HTw.out.below (((Below.refl wr.heap.size wr).alloc (Nat.le_refl _) (.cells #[.string pg, .int .i64 pc, .int .i64 pp] 44)).alloc (by simp) (.cells #[.int .i64 (pc * pp)] 2)))
      have HNe := Lib.hid (show some wr.heap.size ≠ (Value.slice A1 k c1).ownBlock from fun h => by have := (HTw.out.r1.own wr.heap.size h.symm).2; omega)
      have HN1 := Lib.hid (show ∀ j u, ([Value.int .i64 (pc * pp)])[j]? = some u → ((wr.alloc (.cells #[.string pg, .int .i64 pc, .int .i64 pp] 44)).alloc (.cells #[.int .i64 (pc * pp)] 2)).cell? ⟨wr.heap.size + 1, 0 + j, none⟩ = some u from fun j u hu => by
        rw [Nat.zero_add]
        exact (Blk.at _ _ _ (by simp)).cell j (by simpa using hu))
      by_cases hz0 : T = 0
      · subst hz0
        rw [if_pos rfl] at hwk
        obtain rfl : pc = wv := hwk.symm
        rw [hla]
        go_wp2_with (first | (at_builtin; refine wpList_appT rfl (.tmp 38) (.tmp 40) _ rfl 1 (by omega) w1.heap.size 2 i0 _ 8 Tryd.underlying37 HI.out HZ0.out HZ1.out HZ2.out rfl A1 k c1 X1 rfl HTw2.out.r1 (wr.heap.size + 1) 0 1 1 [.int .i64 (pc * pp)] rfl rfl HN1.out (one_int _ _) (by unfold maxLen; omega) (by omega) HB2.out.size ?_; intro A1' c1' w3 hown hg3 hr3; have HT3 := Lib.hid (HTw2.out.app hown hg3 hr3); have HB3 := Lib.hid (HB2.out.trans (HTw2.out.r1.belowApp hg3 (Nat.le_refl _) HB2.out.size)); have BX3 := Lib.hid (BX.out.grown hg3 HNe.out); have j1 := BX3.out.cell 1 rfl; clear hown hg3 hr3) | (at_builtin; have HN2 := Lib.hid (show ∀ j u, ([Value.int .i64 pc])[j]? = some u → (w3.alloc (.cells #[.int .i64 pc] 2)).cell? ⟨w3.heap.size, 0 + j, none⟩ = some u from fun j u hu => new_one _ _ _ j u hu); have HB4 := Lib.hid (HB3.out.alloc HB3.out.size (.cells #[.int .i64 pc] 2)); have HTw4 := Lib.hid (HT3.out.swap.below ((Below.refl w3.heap.size w3).alloc (Nat.le_refl _) (.cells #[.int .i64 pc] 2))); refine wpList_appT rfl (.tmp 46) (.tmp 48) _ rfl 1 (by omega) w1.heap.size 2 i0 _ 8 Tryd.underlying37 HI.out HZ0.out HZ1.out HZ2.out rfl A2 k c2 X2 rfl HTw4.out.r1 w3.heap.size 0 1 1 [.int .i64 pc] rfl rfl HN2.out (one_int _ _) (by unfold maxLen; omega) (by omega) HB4.out.size ?_; intro A2' c2' w5 hown hg5 hr5; have HT5 := Lib.hid (HTw4.out.app hown hg5 hr5); have HB5 := Lib.hid (HB4.out.trans (HTw4.out.r1.belowApp hg5 (Nat.le_refl _) HB4.out.size)); clear hown hg5 hr5))
        go_roundw
        case rel =>
          refine ⟨k + 1, A1', c1', A2', c2', rfl, rfl, by go_num, by omega, ?_, HB5.out⟩
          rw [HS1.out, HS2.out]
          exact HT5.out.swap
        case measure => simp [intOf]; omega
      · have t9 : (T == 0) = false := by simpa using hz0
        rw [if_neg hz0] at hwk
        have HZZ := Lib.hid hz0
        have HWk := Lib.hid hwk
        clear hz0 hwk
        rw [HWk.out] at HS2
        rw [hla]
        go_wp2_with (first | (at_builtin; refine wpList_appT rfl (.tmp 38) (.tmp 40) _ rfl 1 (by omega) w1.heap.size 2 i0 _ 8 Tryd.underlying37 HI.out HZ0.out HZ1.out HZ2.out rfl A1 k c1 X1 rfl HTw2.out.r1 (wr.heap.size + 1) 0 1 1 [.int .i64 (pc * pp)] rfl rfl HN1.out (one_int _ _) (by unfold maxLen; omega) (by omega) HB2.out.size ?_; intro A1' c1' w3 hown hg3 hr3; have HT3 := Lib.hid (HTw2.out.app hown hg3 hr3); have HB3 := Lib.hid (HB2.out.trans (HTw2.out.r1.belowApp hg3 (Nat.le_refl _) HB2.out.size)); have BX3 := Lib.hid (BX.out.grown hg3 HNe.out); have j1 := BX3.out.cell 1 rfl; clear hown hg3 hr3) | (at_builtin; have HN2 := Lib.hid (show ∀ j u, ([Value.int .i64 (pc * pp)])[j]? = some u → (w3.alloc (.cells #[.int .i64 (pc * pp)] 2)).cell? ⟨w3.heap.size, 0 + j, none⟩ = some u from fun j u hu => new_one _ _ _ j u hu); have HB4 := Lib.hid (HB3.out.alloc HB3.out.size (.cells #[.int .i64 (pc * pp)] 2)); have HTw4 := Lib.hid (HT3.out.swap.below ((Below.refl w3.heap.size w3).alloc (Nat.le_refl _) (.cells #[.int .i64 (pc * pp)] 2))); refine wpList_appT rfl (.tmp 46) (.tmp 48) _ rfl 1 (by omega) w1.heap.size 2 i0 _ 8 Tryd.underlying37 HI.out HZ0.out HZ1.out HZ2.out rfl A2 k c2 X2 rfl HTw4.out.r1 w3.heap.size 0 1 1 [.int .i64 (pc * pp)] rfl rfl HN2.out (one_int _ _) (by unfold maxLen; omega) (by omega) HB4.out.size ?_; intro A2' c2' w5 hown hg5 hr5; have HT5 := Lib.hid (HTw4.out.app hown hg5 hr5); have HB5 := Lib.hid (HB4.out.trans (HTw4.out.r1.belowApp hg5 (Nat.le_refl _) HB4.out.size)); clear hown hg5 hr5))
        go_roundw
        case rel =>
          refine ⟨k + 1, A1', c1', A2', c2', rfl, rfl, by go_num, by omega, ?_, HB5.out⟩
          rw [HS1.out, HS2.out]
          exact HT5.out.swap
        case measure => simp [intOf]; omega
    · obtain rfl : k = o.ln := by omega
      rw [List.take_of_length_le (by rw [HLn.out]; exact Nat.le_refl _)] at hTw
      have HTw := Lib.hid hTw.out
      have HBw := Lib.hid hB.out
      have hzr := hB.out.size
      clear hTw hB
      go_wp2_with fail
      refine (HSp.out _ _ _ HTw.out.r2.rd).mono ?_
      rintro e w5 ⟨b, t, rfl, hbl, hb5, hblk⟩
      have HW5 := Lib.hid (HTw.out.r1.rd.below hb5)
      have HB5 := Lib.hid (HB1.out.trans ((HBw.out.trans (hb5.mono hzr)).mono hzz))
      have HBr := Lib.hid (hb5)
      have HBlk := Lib.hid hblk
      have hr5 := hb5.size
      have hbb : w.heap.size ≤ b := by omega
      clear hb5 hblk
      obtain ⟨wo, rfl⟩ : ∃ wo : World, wo = wr := ⟨_, rfl⟩
      have HM0 := Lib.hid (show Blk w5 b t (rowI .i64 (mixE PP (o.L.map worth) 0)) from by rw [mixE_zero]; exact HBlk.out)
      go_wp2_with fail
      go_loopw [62] (fun x wr2 => ∃ k : Nat, x = .int .i64 k ∧ k ≤ o.ln ∧ Hid (Blk wr2 b t (rowI .i64 (mixE PP (o.L.map worth) k))) ∧ Hid (Below wo.heap.size wo wr2)) (fun x _ => o.ln - (intOf x).toNat)
      case atStart => exact ⟨0, rfl, by omega, HM0.out, HBr.out⟩
      case round =>
        obtain ⟨k, rfl, hk2, hM, hBq⟩ := hrel
        by_cases hlt2 : k < o.ln
        · have hkp : k < PP.length := by rw [HPl.out]; exact hlt2
          have hkw : k < (o.L.map worth).length := by rw [List.length_map, HLn.out]; exact hlt2
          obtain ⟨g1, o1, rfl, hg1, hall, wc⟩ := (HTw.out.r1.rd.below hBq.out).at k (by simpa using hkw)
          rw [vals_get .i64 _ k hkw] at wc
          have ew : (o.L.map worth)[k] = (o.L.map worth).getD k 0 := by rw [List.getD_eq_getElem?_getD, List.getElem?_eq_getElem hkw]; rfl
          rw [ew] at wc
          have pc := hM.out.cell k (rowI_get .i64 _ k (by rw [mixE_length]; exact hkp))
          rw [mixE_at _ _ _ hkp] at pc
          have pf := hM.out.free k
          have hst := mixE_step PP (o.L.map worth) k hkp
          obtain ⟨p0, p1⟩ := HPb.out k
          obtain ⟨v0, v1⟩ := HWb.out k
          have hset := hM.out.set k (.int .i64 (PP.getD k 0 + (o.L.map worth).getD k 0))
          rw [rowI_set, hst] at hset
          have HBn := Lib.hid (hBq.out.setCell (p := ⟨b, k, none⟩) (by simpa using hbl) (.int .i64 (PP.getD k 0 + (o.L.map worth).getD k 0)))
          have HSet := Lib.hid hset
          have hki : (k : Int) < o.ln := by omega
          clear hall ew hst hset hM
          generalize PP.getD k 0 = x at *
          generalize (o.L.map worth).getD k 0 = y at *
          have e1 : IntKind.i64.wrap (x + y) = x + y := IntWalk.i64_in _ (by omega)
          go_wp2
          go_region
          all_goals
            go_wp2
            go_roundw
            case rel => exact ⟨k + 1, by go_num, by omega, HSet.out, below_drewN HBn.out _⟩
            case measure => simp [intOf]; omega
        · obtain rfl : k = o.ln := by omega
          have HFin := Lib.hid (show Below w.heap.size w wr from HB1.out.trans ((HBw.out.trans (hBq.out.mono hzr)).mono hzz))
          have HMf := Lib.hid hM.out
          clear hM
          go_wp2
          go_ret2
          exact ⟨b, t, rfl, hbb, HFin.out, HMf.out⟩

end Go.Proofs.YtdkabldhkgidjaaDoor
