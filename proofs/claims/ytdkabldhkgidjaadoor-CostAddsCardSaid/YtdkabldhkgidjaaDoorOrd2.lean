/-
  Orders in memory; order.May, Total: their walks.
-/
import Derived.Test.YtdkabldhkgidjaaDoorOrd1
import Derived.Test.YtdkabldhkgidjaaDoorTerm
namespace Go.Proofs.YtdkabldhkgidjaaDoor
set_option linter.unusedVariables false
set_option linter.unusedSimpArgs false
open Go.RowKit

/-- An order. -/
structure Ord where
  nu : ByteArray
  se : ByteArray
  bu : ByteArray
  cu : ByteArray
  fr : ByteArray
  tt : ByteArray
  term : Int
  la : Option Addr
  ln : Nat
  lc : Nat
  L : List Lne
def Ord.v (o : Ord) : Value := .agg #[.string o.nu, .string o.se, .string o.bu, .string o.cu, .string o.fr, .string o.tt, .int .i64 o.term, .slice o.la o.ln o.lc]
structure OrdOk (w : World) (o : Ord) : Prop where
  h0 : o.nu.size ≤ 9223372036854775807
  h1 : o.se.size ≤ 9223372036854775807
  h2 : o.bu.size ≤ 9223372036854775807
  h3 : o.cu.size ≤ 9223372036854775807
  h4 : o.fr.size ≤ 9223372036854775807
  h5 : o.tt.size ≤ 9223372036854775807
  hl : o.L.length = o.ln
  hm : o.ln ≤ 1048576
  hc : o.ln ≤ o.lc
  hr : Rd w o.la (flat cN o.L)
  hs : ∀ x ∈ o.L, x.g.size ≤ 9223372036854775807
theorem OrdOk.below {w w' : World} {o : Ord} (h : OrdOk w o) (hb : Below w.heap.size w w') : OrdOk w' o := ⟨h.h0, h.h1, h.h2, h.h3, h.h4, h.h5, h.hl, h.hm, h.hc, h.hr.below hb, h.hs⟩
def Ord.names (o : Ord) : List ByteArray := [o.nu, o.se, o.bu, o.fr, o.tt]
def sameS (s t : ByteArray) : Bool := s.toList == t.toList
theorem sameS_spell {s t : ByteArray} {b : Bool} (h : sameS s t = b) : (s.toList == t.toList) = b ∧ (s.toList != t.toList) = !b := by
  unfold sameS at h
  exact ⟨h, by rw [bne, h]⟩
/-- May an order be? -/
def Ord.may (o : Ord) : Bool := o.names.all nameB && !sameS o.se o.bu && currB o.cu && termB o.term && linesB o.L
theorem all_take_succ (l : List ByteArray) (k : Nat) (h : k < l.length) : (l.take (k + 1)).all nameB = ((l.take k).all nameB && nameB l[k]) := by
  rw [List.take_succ_eq_append_getElem h, List.all_append]
  simp
theorem names_get (o : Ord) (k : Nat) (h : k < 5) : (#[.string o.nu, .string o.se, .string o.bu, .string o.fr, .string o.tt] : Array Value)[k]? = some (.string (o.names[k]'h)) := by
  match k, h with
  | 0, _ => rfl
  | 1, _ => rfl
  | 2, _ => rfl
  | 3, _ => rfl
  | 4, _ => rfl
theorem names_size {w : World} {o : Ord} (h : OrdOk w o) (k : Nat) (hk : k < 5) : (o.names[k]'hk).size ≤ 9223372036854775807 := by
  match k, hk with
  | 0, _ => exact h.h0
  | 1, _ => exact h.h1
  | 2, _ => exact h.h2
  | 3, _ => exact h.h4
  | 4, _ => exact h.h5

set_option maxRecDepth 100000 in
set_option maxHeartbeats 6400000 in
theorem c_ordmay (o : Ord) (w : World) (ho : OrdOk w o) : Calls Tryd.prog 60 #[o.v] w fun e w' => e = .returned (.bool o.may) ∧ Below w.heap.size w w' := by
  obtain ⟨M, hM⟩ : ∃ M, M = o.may := ⟨_, rfl⟩
  rw [← hM]
  unfold Ord.may at hM
  have HO := Lib.hid ho
  have HLn := Lib.hid (fun w hr => c_ordlines o.la o.ln o.lc o.L w ho.hl ho.hm hr ho.hs)
  have HC := fun w => c_moneymay o.cu w ho.h3
  have HNm := Lib.hid (fun k hk w => c_mname (o.names[k]'hk) w (names_size ho k hk))
  unfold Ord.v
  have BK := Lib.hid ((Blk.new w 33 #[.string o.nu, .string o.se, .string o.bu, .string o.cu, .string o.fr, .string o.tt, .int .i64 o.term, .slice o.la o.ln o.lc]).alloc (.cells #[.string o.nu, .string o.se, .string o.bu, .string o.fr, .string o.tt] 9))
  have BS := Lib.hid (Blk.at (w.alloc (.cells #[.string o.nu, .string o.se, .string o.bu, .string o.cu, .string o.fr, .string o.tt, .int .i64 o.term, .slice o.la o.ln o.lc] 33)) 9 #[.string o.nu, .string o.se, .string o.bu, .string o.fr, .string o.tt] (n := w.heap.size + 1) (by simp))
  have HB0 := Lib.hid (((Below.refl w.heap.size w).alloc (Nat.le_refl _) (.cells #[.string o.nu, .string o.se, .string o.bu, .string o.cu, .string o.fr, .string o.tt, .int .i64 o.term, .slice o.la o.ln o.lc] 33)).alloc (by simp) (.cells #[.string o.nu, .string o.se, .string o.bu, .string o.fr, .string o.tt] 9))
  clear ho
  go_enter Tryd.func60, Tryd.ntmps60
  go_wp2
  generalize hwa : (w.alloc (.cells #[.string o.nu, .string o.se, .string o.bu, .string o.cu, .string o.fr, .string o.tt, .int .i64 o.term, .slice o.la o.ln o.lc] 33)).alloc (.cells #[.string o.nu, .string o.se, .string o.bu, .string o.fr, .string o.tt] 9) = wa at *
  obtain ⟨g, hg⟩ : ∃ g, g = w.heap.size := ⟨_, rfl⟩
  rw [← hg] at BK BS ⊢
  have HG := Lib.hid hg
  have HM := Lib.hid hM
  clear hwa hg hM
  go_loop [17] (fun x => ∃ k : Nat, x = .int .i64 k ∧ k ≤ 5 ∧ Hid ((o.names.take k).all nameB = true)) (fun x => 5 - (intOf x).toNat)
  case atStart => exact ⟨0, rfl, by omega, rfl⟩
  case round =>
    obtain ⟨k, rfl, hk, hA⟩ := hrel
    by_cases hlt : k < 5
    · have hc := BS.out.cell k (names_get o k hlt)
      have hts := all_take_succ o.names k hlt
      rw [hA.out, Bool.true_and] at hts
      have hnm := fun w => HNm.out k hlt w
      have hfull := Lib.hid (fun (h : (o.names.take (k + 1)).all nameB = false) => (show o.names.all nameB = false from by
        cases hx : o.names.all nameB
        · rfl
        · rw [List.all_eq_true] at hx
          rw [List.all_eq_false] at h
          obtain ⟨y, hy, h2⟩ := h
          exact absurd (hx y (List.mem_of_mem_take hy)) h2))
      generalize o.names[k]'hlt = s at *
      have hki : (k : Int) < 5 := by omega
      cases hb : nameB s
      · rw [hb] at hnm hts
        have HF := Lib.hid (show M = false by rw [HM.out, hfull.out hts]; rfl)
        have HNm1 := Lib.hid hnm
        clear hts hnm hb
        go_wp2_with (go_at_call 56; (with_reducible refine (HNm1.out _).mono ?_); rintro e w' ⟨rfl, rfl⟩)
        go_ret
        exact ⟨ret_b HF.out.symm, HB0.out⟩
      · rw [hb] at hnm hts
        have HT := Lib.hid hts
        have HNm1 := Lib.hid hnm
        clear hts hnm hb
        go_wp2_with (go_at_call 56; (with_reducible refine (HNm1.out _).mono ?_); rintro e w' ⟨rfl, rfl⟩)
        go_round
        case rel => exact ⟨k + 1, by go_num, by omega, HT.out⟩
        case measure => simp [intOf]; omega
    · obtain rfl : k = 5 := by omega
      have hall : o.names.all nameB = true := by
        have := hA.out
        rw [List.take_of_length_le (by show 5 ≤ 5; omega)] at this
        exact this
      have hM2 := HM.out
      rw [hall, Bool.true_and] at hM2
      clear HM hA hall HNm
      have k0 := BK.out.cell 0 rfl
      have k1 := BK.out.cell 1 rfl
      have k2 := BK.out.cell 2 rfl
      have k3 := BK.out.cell 3 rfl
      have k4 := BK.out.cell 4 rfl
      have k5 := BK.out.cell 5 rfl
      have k6 := BK.out.cell 6 rfl
      have k7 := BK.out.cell 7 rfl
      cases hs : sameS o.se o.bu
      · obtain ⟨t1, t2⟩ := sameS_spell hs
        cases hc : currB o.cu
        · rw [hc] at HC
          have HF := Lib.hid (show M = false by rw [hM2, hc]; simp)
          have HC := Lib.hid HC
          clear hM2 hs hc
          go_wp2_with fail
          refine (HC.out _).mono ?_
          rintro e w1 ⟨rfl, hb1⟩
          have HB1 := Lib.hid (HB0.out.trans (hb1.mono HB0.out.size))
          have BK1 := Lib.hid (BK.out.below hb1 BK.out.lt)
          clear hb1 k0 k1 k2 k3 k4 k5 k6 k7
          have k0 := BK1.out.cell 0 rfl
          have k1 := BK1.out.cell 1 rfl
          have k2 := BK1.out.cell 2 rfl
          have k3 := BK1.out.cell 3 rfl
          have k4 := BK1.out.cell 4 rfl
          have k5 := BK1.out.cell 5 rfl
          have k6 := BK1.out.cell 6 rfl
          have k7 := BK1.out.cell 7 rfl
          go_wp2_with fail
          go_ret
          exact ⟨ret_b HF.out.symm, HB1.out⟩
        · rw [hc] at HC
          by_cases h0 : 0 ≤ o.term
          · by_cases h1 : o.term ≤ 7
            · skip
              rw [hs, hc, show termB o.term = true from decide_eq_true ⟨h0, h1⟩] at hM2
              have HF := Lib.hid (show M = linesB o.L by rw [hM2]; simp)
              have HC := Lib.hid HC
              clear hM2 hs hc
              go_wp2_with fail
              refine (HC.out _).mono ?_
              rintro e w1 ⟨rfl, hb1⟩
              have HB1 := Lib.hid (HB0.out.trans (hb1.mono HB0.out.size))
              have BK1 := Lib.hid (BK.out.below hb1 BK.out.lt)
              clear hb1 k0 k1 k2 k3 k4 k5 k6 k7
              have k0 := BK1.out.cell 0 rfl
              have k1 := BK1.out.cell 1 rfl
              have k2 := BK1.out.cell 2 rfl
              have k3 := BK1.out.cell 3 rfl
              have k4 := BK1.out.cell 4 rfl
              have k5 := BK1.out.cell 5 rfl
              have k6 := BK1.out.cell 6 rfl
              have k7 := BK1.out.cell 7 rfl
              go_wp2_with fail
              refine (HLn.out _ (HO.out.hr.below HB1.out)).mono ?_
              rintro e w2 ⟨rfl, hb2⟩
              have HB2 := Lib.hid (HB1.out.trans (hb2.mono HB1.out.size))
              clear hb2
              go_wp2_with fail
              go_ret
              exact ⟨ret_b HF.out.symm, HB2.out⟩
            · skip
              have HF := Lib.hid (show M = false by rw [hM2, show termB o.term = false from decide_eq_false fun h => h1 h.2]; simp)
              have HC := Lib.hid HC
              clear hM2 hs hc
              go_wp2_with fail
              refine (HC.out _).mono ?_
              rintro e w1 ⟨rfl, hb1⟩
              have HB1 := Lib.hid (HB0.out.trans (hb1.mono HB0.out.size))
              have BK1 := Lib.hid (BK.out.below hb1 BK.out.lt)
              clear hb1 k0 k1 k2 k3 k4 k5 k6 k7
              have k0 := BK1.out.cell 0 rfl
              have k1 := BK1.out.cell 1 rfl
              have k2 := BK1.out.cell 2 rfl
              have k3 := BK1.out.cell 3 rfl
              have k4 := BK1.out.cell 4 rfl
              have k5 := BK1.out.cell 5 rfl
              have k6 := BK1.out.cell 6 rfl
              have k7 := BK1.out.cell 7 rfl
              go_wp2_with fail
              go_ret
              exact ⟨ret_b HF.out.symm, HB1.out⟩
          · skip
            have HF := Lib.hid (show M = false by rw [hM2, show termB o.term = false from decide_eq_false fun h => h0 h.1]; simp)
            have HC := Lib.hid HC
            clear hM2 hs hc
            go_wp2_with fail
            refine (HC.out _).mono ?_
            rintro e w1 ⟨rfl, hb1⟩
            have HB1 := Lib.hid (HB0.out.trans (hb1.mono HB0.out.size))
            have BK1 := Lib.hid (BK.out.below hb1 BK.out.lt)
            clear hb1 k0 k1 k2 k3 k4 k5 k6 k7
            have k0 := BK1.out.cell 0 rfl
            have k1 := BK1.out.cell 1 rfl
            have k2 := BK1.out.cell 2 rfl
            have k3 := BK1.out.cell 3 rfl
            have k4 := BK1.out.cell 4 rfl
            have k5 := BK1.out.cell 5 rfl
            have k6 := BK1.out.cell 6 rfl
            have k7 := BK1.out.cell 7 rfl
            go_wp2_with fail
            go_ret
            exact ⟨ret_b HF.out.symm, HB1.out⟩
      · obtain ⟨t1, t2⟩ := sameS_spell hs
        have HF := Lib.hid (show M = false by rw [hM2, hs]; simp)
        clear hM2 hs
        go_wp2
        go_ret
        exact ⟨ret_b HF.out.symm, HB0.out⟩

def worth (x : Lne) : Int := x.c * x.p
def sumW : List Lne → Int
  | [] => 0
  | x :: r => worth x + sumW r
theorem sumW_take_succ (L : List Lne) (k : Nat) (h : k < L.length) : sumW (L.take (k + 1)) = sumW (L.take k) + worth L[k] := by
  induction L generalizing k with
  | nil => simp at h
  | cons p r ih =>
    cases k with
    | zero => simp [sumW]
    | succ k =>
      have := ih k (by simpa using h)
      simp only [List.take_succ_cons, sumW, List.getElem_cons_succ]
      omega
theorem worth_bd {x : Lne} (h1 : cntB x.c = true) (h2 : prcB x.p = true) : 0 ≤ worth x ∧ worth x ≤ 1125899906842624 := by
  unfold cntB at h1
  unfold prcB at h2
  simp only [decide_eq_true_eq] at h1 h2
  unfold worth
  refine ⟨Int.mul_nonneg (by omega) (by omega), ?_⟩
  have h3 := Int.mul_le_mul h1.2 h2.2 (by omega) (by omega)
  omega
theorem sumW_bd {L : List Lne} (h : ∀ x ∈ L, 0 ≤ worth x ∧ worth x ≤ 1125899906842624) : 0 ≤ sumW L ∧ sumW L ≤ 1125899906842624 * L.length := by
  induction L with
  | nil => simp [sumW]
  | cons p r ih =>
    have h1 := h p (by simp)
    have h2 := ih (fun x hx => h x (List.mem_cons_of_mem _ hx))
    simp only [sumW, List.length_cons]
    omega
theorem Ord.may_lines {o : Ord} (h : o.may = true) : linesB o.L = true := by
  unfold Ord.may at h
  simp only [Bool.and_eq_true] at h
  exact h.2
theorem Ord.may_term {o : Ord} (h : o.may = true) : 0 ≤ o.term ∧ o.term ≤ 7 := by
  unfold Ord.may at h
  simp only [Bool.and_eq_true] at h
  exact of_decide_eq_true h.1.2
theorem linesB_facts {L : List Lne} (h : linesB L = true) : (∀ x ∈ L, cntB x.c = true ∧ prcB x.p = true ∧ 0 ≤ worth x ∧ worth x ≤ 1125899906842624) ∧ 1 ≤ L.length ∧ L.length ≤ 64 := by
  unfold linesB at h
  simp only [Bool.and_eq_true, decide_eq_true_eq] at h
  exact ⟨fun x hx => have hm := linesGo_mem h.1 x hx; ⟨hm.1, hm.2, worth_bd hm.1 hm.2⟩, h.2.1, h.2.2⟩
/-- What is wrong with an order's total; the total. -/
def totE (o : Ord) : Int := if o.may = true then (if 1099511627776 < sumW o.L then 3 else 0) else 1
def totN (o : Ord) : Int := if totE o = 0 then sumW o.L else 0
set_option maxRecDepth 100000 in
set_option maxHeartbeats 3200000 in
theorem c_ordtotal (o : Ord) (w : World) (ho : OrdOk w o) : Calls Tryd.prog 44 #[o.v] w fun e w' => e = .returned (.tuple #[.int .i64 (totN o), .int .i64 (totE o)]) ∧ Below w.heap.size w w' := by
  have HM := fun w ho => c_ordmay o w ho
  have HO := Lib.hid ho
  have BK := Lib.hid (Blk.new w 33 #[.string o.nu, .string o.se, .string o.bu, .string o.cu, .string o.fr, .string o.tt, .int .i64 o.term, .slice o.la o.ln o.lc])
  have HB0 := Lib.hid ((Below.refl w.heap.size w).alloc (Nat.le_refl _) (.cells #[.string o.nu, .string o.se, .string o.bu, .string o.cu, .string o.fr, .string o.tt, .int .i64 o.term, .slice o.la o.ln o.lc] 33))
  obtain ⟨E, hE⟩ : ∃ E, E = totE o := ⟨_, rfl⟩
  obtain ⟨N, hN⟩ : ∃ N, N = totN o := ⟨_, rfl⟩
  rw [← hE, ← hN]
  unfold totN at hN
  rw [← hE] at hN
  unfold totE at hE
  clear ho
  unfold Ord.v at HM ⊢
  cases hm : o.may
  · rw [hm] at HM hE
    rw [if_neg (by decide)] at hE
    subst hE
    rw [if_neg (by decide)] at hN
    subst hN
    have HM := Lib.hid HM
    clear hm
    go_enter Tryd.func44, Tryd.ntmps44
    go_wp2_with fail
    refine (HM.out _ (HO.out.below HB0.out)).mono ?_
    rintro e w1 ⟨rfl, hb1⟩
    have HB1 := Lib.hid (HB0.out.trans (hb1.mono HB0.out.size))
    clear hb1
    go_wp2_with fail
    go_ret2
    exact ⟨rfl, HB1.out⟩
  · obtain ⟨hf, l0, l1⟩ := linesB_facts (Ord.may_lines hm)
    rw [hm] at HM hE
    rw [if_pos rfl] at hE
    have HM := Lib.hid HM
    have HBd := Lib.hid (fun k => sumW_bd (L := o.L.take k) (fun x hx => (hf x (List.mem_of_mem_take hx)).2.2))
    have HF := Lib.hid hf
    have HE := Lib.hid hE
    have HNN := Lib.hid hN
    have hln := HO.out.hl
    rw [hln] at l0 l1
    have HLn := Lib.hid hln
    clear hm hf hE hN hln
    go_enter Tryd.func44, Tryd.ntmps44
    go_wp2_with fail
    refine (HM.out _ (HO.out.below HB0.out)).mono ?_
    rintro e w1 ⟨rfl, hb1⟩
    have HB1 := Lib.hid (HB0.out.trans (hb1.mono HB0.out.size))
    have k7 := (BK.out.below hb1 BK.out.lt).cell 7 rfl
    have HR1 := Lib.hid (HO.out.hr.below HB1.out)
    clear hb1
    go_wp2_with fail
    clear k7
    go_loopw [4, 13] (fun s x wr => ∃ (k : Nat) (u : Int), s = .int .i64 u ∧ x = .int .i64 k ∧ k ≤ o.ln ∧ 0 ≤ u ∧ u ≤ 72057594037927936 ∧ Hid (u = sumW (o.L.take k)) ∧ Hid (Below w1.heap.size w1 wr)) (fun _ x _ => o.ln - (intOf x).toNat)
    case atStart => exact ⟨0, 0, rfl, rfl, by omega, by omega, by omega, rfl, Below.refl _ _⟩
    case round =>
      obtain ⟨k, u, rfl, rfl, hk, u0, u1, hu, hB⟩ := hrel
      by_cases hlt : k < o.ln
      · have hkL : k < o.L.length := by rw [HLn.out]; exact hlt
        obtain ⟨b, off, hla, hb, c0, c1, c2⟩ := line_at (HR1.out.below hB.out) k hkL
        have hts := sumW_take_succ o.L k hkL
        have hbd := HBd.out (k + 1)
        rw [List.length_take] at hbd
        have hz := hB.out.size
        have HS := Lib.hid (show u + worth o.L[k] = sumW (o.L.take (k + 1)) by rw [hts, hu.out])
        have hle : 0 ≤ u + worth o.L[k] ∧ u + worth o.L[k] ≤ 72057594037927936 := by rw [HS.out]; omega
        obtain ⟨l2, l3⟩ := hle
        have hw := (HF.out _ (List.getElem_mem hkL)).2.2
        clear hts hbd
        generalize o.L[k] = p at *
        obtain ⟨pg, pc, pp⟩ := p
        unfold worth at HS l2 l3 hw
        simp only at c0 c1 c2 l2 l3 HS hw
        obtain ⟨q0, q1⟩ := hw
        have e0 : IntKind.i64.wrap (pc * pp) = pc * pp := IntWalk.i64_in _ (by omega)
        have e1 : IntKind.i64.wrap (u + pc * pp) = u + pc * pp := IntWalk.i64_in _ (by omega)
        rw [hla]
        go_wp2
        go_roundw
        case rel => exact ⟨k + 1, u + pc * pp, rfl, by go_num, by omega, by omega, by omega, HS.out, hB.out.alloc hz _⟩
        case measure => simp [intOf]; omega
      · obtain rfl : k = o.ln := by omega
        have h1 := hu.out
        rw [List.take_of_length_le (by rw [HLn.out]; exact Nat.le_refl _)] at h1
        have h2 := HE.out
        rw [← h1] at h2
        have h3 := HNN.out
        rw [← h1] at h3
        by_cases hbig : 1099511627776 < u
        · have hE3 : E = 3 := by rw [h2, if_pos hbig]
          have HQ := Lib.hid (And.intro hE3 (show N = 0 by rw [h3, if_neg (by rw [hE3]; decide)]))
          clear h1 h2 h3 hu hE3
          go_wp2
          go_ret2
          rw [HQ.out.1, HQ.out.2]
          exact ⟨rfl, HB1.out.trans (hB.out.mono HB1.out.size)⟩
        · have hE3 : E = 0 := by rw [h2, if_neg hbig]
          have HQ := Lib.hid (And.intro hE3 (show N = u by rw [h3, if_pos hE3]))
          clear h1 h2 h3 hu hE3
          go_wp2
          go_ret2
          rw [HQ.out.1, HQ.out.2]
          exact ⟨rfl, HB1.out.trans (hB.out.mono HB1.out.size)⟩

end Go.Proofs.YtdkabldhkgidjaaDoor
