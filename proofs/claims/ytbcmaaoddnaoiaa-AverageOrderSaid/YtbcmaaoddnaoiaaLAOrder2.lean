/-
  The law AverageOrder, where it says something: its walk.
-/
import Derived.Test.YtbcmaaoddnaoiaaLASums
import Derived.Test.YtbcmaaoddnaoiaaFewQ
namespace Go.Proofs.Ytbcmaaoddnaoiaa
set_option linter.unusedVariables false
set_option linter.unusedSimpArgs false
open Go.RowKit

theorem wholeE_amt {L : List (ByteArray × Int)} {gs : List Int} {s : Int} (h : 1099511627776 < s) : wholeE L gs s = 1 := by
  unfold wholeE
  rw [if_pos (.inr (by unfold amtB; simp; omega))]
theorem mayB_vals {L : List (ByteArray × Int)} {k : Nat} (h : mayB L = true) : (valsI L).getD k 0 ≤ 1099511627776 := by
  rw [List.getD_eq_getElem?_getD]
  by_cases hk : k < (valsI L).length
  · rw [List.getElem?_eq_getElem hk]
    exact (mayB_amt h _ (List.getElem_mem hk)).2
  · rw [List.getElem?_eq_none (by omega)]; simp
theorem order_given {L : List (ByteArray × Int)} {gs : List Int} {k : Nat} {n : Int} (hk : k < gs.length) (h1 : gs.getD k 0 ≤ (valsI L).getD k 0) (h2 : 0 ≤ n) (h3 : n ≤ gs.getD k 0) :
    givenB L (gs.set k (gs.getD k 0 - n)) = givenB L gs := by
  unfold givenB
  rw [List.length_set]
  congr 1
  rw [decide_eq_decide]
  have hg : ∀ i, (gs.set k (gs.getD k 0 - n)).getD i 0 = if i = k then gs.getD k 0 - n else gs.getD i 0 := fun i => by
    simp only [List.getD_eq_getElem?_getD, List.getElem?_set]
    by_cases he : i = k
    · subst he; simp [hk]
    · rw [if_neg (fun h => he h.symm), if_neg he]
  constructor
  · intro h i hi
    by_cases he : i = k
    · subst he; omega
    · have := h i hi
      rw [hg, if_neg he] at this
      exact this
  · intro h i hi
    rw [hg]
    by_cases he : i = k
    · subst he; rw [if_pos rfl]; omega
    · rw [if_neg he]; exact h i hi
/-- Given up by another, or spent: refused alike, the same loss. -/
theorem order_law {L : List (ByteArray × Int)} {gs : List Int} {k : Nat} {n spent : Int} (hk : k < gs.length) (h1 : gs.getD k 0 ≤ (valsI L).getD k 0) (h2 : 0 ≤ n) (h3 : n ≤ gs.getD k 0) (h4 : 0 ≤ spent) (h5 : spent ≤ 1099511627776) (hv : (valsI L).getD k 0 ≤ 9223372036854775807) :
    IntKind.i64.wrap (spent + n) ≤ 1099511627776 → wholeE L (gs.set k (gs.getD k 0 - n)) (IntKind.i64.wrap (spent + n)) = wholeE L gs spent ∧ (wholeE L gs spent = 0 → sumL (gs.set k (gs.getD k 0 - n)) + IntKind.i64.wrap (spent + n) = sumL gs + spent) := by
  intro hw
  have hgv := order_given hk h1 h2 h3 (L := L)
  cases hm : mayB L
  · have hg : givenB L gs = false := by unfold givenB; rw [hm]; simp
    have e1 : wholeE L gs spent = 1 := by unfold wholeE; rw [if_pos (.inl hg)]
    have e2 : wholeE L (gs.set k (gs.getD k 0 - n)) (IntKind.i64.wrap (spent + n)) = 1 := by unfold wholeE; rw [if_pos (.inl (by rw [hgv]; exact hg))]
    rw [e1, e2]
    exact ⟨rfl, fun h => by cases h⟩
  · have hvk := mayB_vals (k := k) hm
    have e0 : IntKind.i64.wrap (spent + n) = spent + n := IntWalk.i64_in _ (by omega)
    rw [e0] at hw ⊢
    have e1 : sumL (gs.set k (gs.getD k 0 - n)) + (spent + n) = sumL gs + spent := by rw [sumL_set _ _ _ hk]; omega
    refine ⟨?_, fun _ => e1⟩
    have a1 : amtB spent = true := by unfold amtB; simp; omega
    have a2 : amtB (spent + n) = true := by unfold amtB; simp; omega
    unfold wholeE
    rw [hgv, a1, a2, e1]

set_option maxRecDepth 100000 in
set_option maxHeartbeats 6400000 in
theorem l_aorder_in (a b : Option Addr) (c m d k : Nat) (L : List (ByteArray × Int)) (gs : List Int) (spent nn : Int) (w : World) (hn : L.length = m) (hr : Rd w a (cellsI L)) (hs : ∀ p ∈ L, p.1.size ≤ 9223372036854775807) (hg : gs.length = m) (hb : Rd w b (vals .i64 gs))
    (hf : fewG L m = true) (hk : k < m) (h1 : gs.getD k 0 ≤ (valsI L).getD k 0) (h2 : 0 ≤ nn) (h3 : nn ≤ gs.getD k 0) (h4 : 0 ≤ spent) (h5 : spent ≤ 1099511627776) (hv : (valsI L).getD k 0 ≤ 9223372036854775807) :
    Calls Try.prog 6 #[.slice a m c, .slice b m d, .int .i64 spent, .int .i64 k, .int .i64 nn] w fun e w' => e = .returned (.bool true) ∧ Below w.heap.size w w' := by
  obtain ⟨i0, hi, hz0, hz1, hz2⟩ := info_parts info_i64v
  have HI := Lib.hid hi
  have HZ0 := Lib.hid hz0
  have HZ1 := Lib.hid hz1
  have HZ2 := Lib.hid hz2
  have hm := (fewG_len hf).1
  rw [hn] at hm
  have hlaw := order_law (L := L) (by rw [hg]; exact hk) h1 h2 h3 h4 h5 hv
  have HA := fun w hr => c_fewq a b m c m d L w hn (by omega) (by omega) hr hs
  rw [hf] at HA
  have HF := Lib.hid HA
  have hgl : (gs.set k (gs.getD k 0 - nn)).length = m := by rw [List.length_set, hg]
  have HW1 := Lib.hid (fun w hr hb he => c_whole_bad a b m c m d L gs spent w hn (by omega) hr hs hg (by omega) hb he)
  have HG1 := Lib.hid (fun w hr hb he => c_whole a b m c m d L gs spent w hn (by omega) hr hs hg (by omega) hb he)
  have HW2 := Lib.hid (fun b d s w hr hb he => c_whole_bad a b m c m d L (gs.set k (gs.getD k 0 - nn)) s w hn (by omega) hr hs hgl (by omega) hb he)
  have HG2 := Lib.hid (fun b d s w hr hb he => c_whole a b m c m d L (gs.set k (gs.getD k 0 - nn)) s w hn (by omega) hr hs hgl (by omega) hb he)
  have hpl : (partsOf (sumL gs + spent) (valsI L)).length = m := by rw [partsOf_length, valsI_length, hn]
  have HPl := Lib.hid hpl
  have HR := Lib.hid hr
  have HB := Lib.hid hb
  have HN := Lib.hid hn
  have HG := Lib.hid hg
  have HLaw := Lib.hid hlaw
  have HAmt := Lib.hid (fun h => wholeE_amt (L := L) (gs := gs.set k (gs.getD k 0 - nn)) (s := IntKind.i64.wrap (spent + nn)) h)
  have hV := fun (h : k < (vals .i64 gs).length) => vals_getD gs k (by rw [hg]; exact hk) h
  have hset := vals_set .i64 gs k (gs.getD k 0 - nn)
  have HV := Lib.hid hV
  have HSet := Lib.hid hset
  have q1 : decide ((k : Int) < 0) = false := by simp
  have q2 : decide ((m : Int) ≤ k) = false := by simpa using hk
  have q3 : decide ((valsI L).getD k 0 < gs.getD k 0) = false := by simpa using h1
  have q4 : decide (nn < 0) = false := by simpa using h2
  have q5 : decide (gs.getD k 0 < nn) = false := by simpa using h3
  have q6 : decide (spent < 0) = false := by simpa using h4
  have q7 : decide (1099511627776 < spent) = false := by simpa using h5
  have e1 : IntKind.i64.wrap (gs.getD k 0 - nn) = gs.getD k 0 - nn := IntWalk.i64_in _ (by omega)
  clear hi hz0 hz1 hz2 hn hr hs hg hb hf hlaw HA hgl hpl hV hset
  generalize hgx : gs.getD k 0 = x at *
  go_enter Try.func6, Try.ntmps6
  go_wp2_with fail
  refine (c_awake43 _).mono ?_
  rintro e w1 ⟨rfl, hb1⟩
  have HR1 := Lib.hid (HR.out.below hb1)
  have hkL : k < L.length := by rw [HN.out]; exact hk
  have hkg : k < gs.length := by rw [HG.out]; exact hk
  obtain ⟨b5, o5, ha5, hb5, c5, c6⟩ := intr_at HR1.out k hkL
  rw [← valsI_getD L k hkL] at c6
  obtain ⟨b6, o6, ha6, hb6, hall6, d5⟩ := (HB.out.below hb1).at k (by simpa using hkg)
  clear hall6
  rw [HV.out] at d5
  subst ha5 ha6
  generalize (valsI L).getD k 0 = v at *
  generalize L[k].1 = sx at *
  go_wp2_with fail
  go_quiet ((go_at_call 16; exact quiet_left0 (HF.out _ HR1.out)))
  generalize hwq : World.drewN w1 _ = wq
  have hbq : Below w.heap.size w wq := hwq ▸ below_drewN hb1 _
  clear hwq hb1 HR1 c5 c6 d5 hb5 hb6
  have hzq := hbq.size
  have HBq := Lib.hid hbq
  have HR1 := Lib.hid (HR.out.below hbq)
  have HB1 := Lib.hid (HB.out.below hbq)
  go_wp2_with (at_builtin; refine wpList_app _ rfl (.tmp 73) (.tmp 74) _ rfl wq.heap.size 2 i0 _ 8 Try.underlying23 HI.out HZ0.out HZ1.out HZ2.out rfl _ 0 0 [] rfl (Own.empty _ _ _ (Nat.le_refl _)) (some ⟨b6, o6, none⟩) m d (vals .i64 gs) rfl (by simpa using HG.out) (HB1.out.alloc _) (one_vals _ _) (by unfold maxLen; omega) (by omega) (by simp) ?_; intro A' c' w2 hown hg3 hb2; simp only [List.nil_append, Nat.zero_add] at hown ⊢; obtain ⟨g, rfl, hg1, hg2, hgf, hgc, hgs⟩ := hown.at k hk; have hgc2 : w2.cell? ⟨g, k, none⟩ = some (.int .i64 x) := (by rw [hgc, List.getElem?_eq_getElem (by simpa using hkg), HV.out]); have HO3 := Lib.hid (HSet.out ▸ hgs (.int .i64 (x - nn))); have HB3 := Lib.hid (((HBq.out.alloc hzq _).trans (hb2.mono hzq)).setCell (show w.heap.size ≤ (⟨g, k, none⟩ : Addr).block by simp; omega) (.int .i64 (x - nn))); clear hgc hgs hg3 hb2 hown)
  clear HBq HR1 HB1
  generalize hw3 : World.setCell w2 _ _ = w3 at HO3 HB3 ⊢
  clear hw3 hgc2 hgf hg2
  have HR3 := Lib.hid (HR.out.below HB3.out)
  have HD3 := Lib.hid (HB.out.below HB3.out)
  have hz3 := HB3.out.size
  have hB4 : ∀ W, Below w3.heap.size w3 W → Below w.heap.size w W := fun W h => HB3.out.trans (h.mono hz3)
  have hR4 : ∀ W, Below w3.heap.size w3 W → Rd W (some ⟨b5, o5, none⟩) (cellsI L) := fun W h => HR.out.below (hB4 W h)
  have HB4 := Lib.hid hB4
  have HR4 := Lib.hid hR4
  clear hB4 hR4
  generalize hs2 : IntKind.i64.wrap (spent + nn) = s2 at *
  by_cases hS : s2 ≤ 1099511627776
  · obtain ⟨k1, k2⟩ := HLaw.out hS
    clear HLaw HAmt
    by_cases hE : wholeE L gs spent = 0
    · have hE2 := k1.trans hE
      have hsum := k2 hE
      have HG2' := fun b d w hr hb => HG2.out b d s2 w hr hb hE2
      have HG1' := fun w hr hb => HG1.out w hr hb hE
      unfold WholeOk at HG2' HG1'
      rw [hsum] at HG2'
      have HG2 := Lib.hid HG2'
      have HG1 := Lib.hid HG1'
      clear HW1 HW2 HG2' HG1' hE hE2 hsum k1 k2
      generalize partsOf (sumL gs + spent) (valsI L) = ps at *
      refine (HG1.out _ HR3.out HD3.out).mono ?_
      rintro e w4 ⟨p1, t1, A1, c1, rfl, hP1, hO1, hb4⟩
      have HBB4 := Lib.hid hb4
      have HP1 := Lib.hid hP1
      have HO4 := Lib.hid (HO3.out.keep hb4)
      have hz4 := hb4.size
      clear hP1 hO1 hb4
      go_wp2_with fail
      refine (HG2.out _ _ _ (HR4.out _ HBB4.out) HO4.out.rd).mono ?_
      rintro e w5 ⟨p2, t2, A2, c2, rfl, hP2, hO2, hb5⟩
      have HP2 := Lib.hid hP2
      have HP15 := Lib.hid (HP1.out.below hb5 HP1.out.lt)
      have HB5 := Lib.hid (HB4.out _ (HBB4.out.trans (hb5.mono hz4)))
      clear hP2 hO2 hb5
      go_wp2_with fail
      have hc := c_same (some ⟨p1, 0, none⟩) (some ⟨p2, 0, none⟩) m m m m ps ps w5 HPl.out HPl.out (by omega) (by omega) (Rd.blk' HP15.out) (Rd.blk' HP2.out)
      rw [show decide (ps = ps) = true from by simp] at hc
      refine hc.mono ?_
      clear hc
      rintro e w6 ⟨rfl, q, rfl⟩
      go_wp2_with fail
      go_ret
      exact ⟨rfl, below_drewN HB5.out _⟩
    · have HW1' := fun w hr hb => HW1.out w hr hb hE
      have HW2' := fun b d w hr hb => HW2.out b d s2 w hr hb (by rw [k1]; exact hE)
      rw [k1] at HW2'
      have t1 : (wholeE L gs spent != 0) = true := by simpa using hE
      have HW1 := Lib.hid HW1'
      have HW2 := Lib.hid HW2'
      clear HG1 HG2 HW1' HW2' hE k1 k2
      generalize wholeE L gs spent = E at *
      refine (HW1.out _ HR3.out HD3.out).mono ?_
      rintro e w4 ⟨rfl, hb4⟩
      have HBB4 := Lib.hid hb4
      have HO4 := Lib.hid (HO3.out.keep hb4)
      have hz4 := hb4.size
      clear hb4
      go_wp2_with fail
      refine (HW2.out _ _ _ (HR4.out _ HBB4.out) HO4.out.rd).mono ?_
      rintro e w5 ⟨rfl, hb5⟩
      have HB5 := Lib.hid (HB4.out _ (HBB4.out.trans (hb5.mono hz4)))
      clear hb5
      go_wp2_with fail
      have hc := c_same none none 0 0 0 0 [] [] w5 rfl rfl (by omega) (by omega) (Rd.nil _ _) (Rd.nil _ _)
      rw [show decide (([] : List Int) = []) = true from by decide] at hc
      refine hc.mono ?_
      clear hc
      rintro e w6 ⟨rfl, q, rfl⟩
      go_wp2_with fail
      go_ret
      exact ⟨rfl, below_drewN HB5.out _⟩
  · have hE2 := HAmt.out (by omega)
    have HW2' := fun b d w hr hb => HW2.out b d s2 w hr hb (by rw [hE2]; decide)
    rw [hE2] at HW2'
    have HW2 := Lib.hid HW2'
    clear HLaw HAmt HW2' HG2 hE2
    by_cases hE : wholeE L gs spent = 0
    · have HG1' := fun w hr hb => HG1.out w hr hb hE
      unfold WholeOk at HG1'
      have HG1 := Lib.hid HG1'
      clear HW1 HG1' hE
      generalize partsOf (sumL gs + spent) (valsI L) = ps at *
      refine (HG1.out _ HR3.out HD3.out).mono ?_
      rintro e w4 ⟨p1, t1, A1, c1, rfl, hP1, hO1, hb4⟩
      have HBB4 := Lib.hid hb4
      have HO4 := Lib.hid (HO3.out.keep hb4)
      have hz4 := hb4.size
      clear hP1 hO1 hb4
      go_wp2_with fail
      refine (HW2.out _ _ _ (HR4.out _ HBB4.out) HO4.out.rd).mono ?_
      rintro e w5 ⟨rfl, hb5⟩
      have HB5 := Lib.hid (HB4.out _ (HBB4.out.trans (hb5.mono hz4)))
      clear hb5
      go_wp2_with fail
      go_ret
      exact ⟨rfl, HB5.out⟩
    · have HW1' := fun w hr hb => HW1.out w hr hb hE
      have HW1 := Lib.hid HW1'
      clear HG1 HW1' hE
      generalize wholeE L gs spent = E at *
      refine (HW1.out _ HR3.out HD3.out).mono ?_
      rintro e w4 ⟨rfl, hb4⟩
      have HBB4 := Lib.hid hb4
      have HO4 := Lib.hid (HO3.out.keep hb4)
      have hz4 := hb4.size
      clear hb4
      go_wp2_with fail
      refine (HW2.out _ _ _ (HR4.out _ HBB4.out) HO4.out.rd).mono ?_
      rintro e w5 ⟨rfl, hb5⟩
      have HB5 := Lib.hid (HB4.out _ (HBB4.out.trans (hb5.mono hz4)))
      clear hb5
      go_wp2_with fail
      go_ret
      exact ⟨rfl, HB5.out⟩

end Go.Proofs.Ytbcmaaoddnaoiaa
