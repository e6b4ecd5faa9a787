/-
  slices.Clone, average.Whole and Values, the law's few: their walks.
-/
import Derived.Test.YtbcmaaoddnaoiaaAver
namespace Go.Proofs.Ytbcmaaoddnaoiaa
set_option linter.unusedVariables false
set_option linter.unusedSimpArgs false
open Go.RowKit

set_option maxRecDepth 100000 in
set_option maxHeartbeats 1600000 in
theorem c_clone (a : Option Addr) (n c : Nat) (zs : List Int) (w : World) (hn : zs.length = n) (h1 : 1 ≤ n) (hm : n ≤ 4096) (hr : Rd w a (vals .i64 zs)) :
    Calls Try.prog 50 #[.slice a n c] w fun e w' => ∃ A' c', e = .returned (.slice A' n c') ∧ Own w' w.heap.size 2 A' n c' (vals .i64 zs) ∧ Below w.heap.size w w' := by
  obtain ⟨i0, hi, hz0, hz1, hz2⟩ := info_parts info_i64v
  have HI := Lib.hid hi
  have HZ0 := Lib.hid hz0
  have HZ1 := Lib.hid hz1
  have HZ2 := Lib.hid hz2
  obtain ⟨b, o, rfl, hb, hr⟩ := hr (by intro h; have := congrArg List.length h; rw [vals_length, hn] at this; simp only [List.length_nil] at this; omega)
  have HR : Hid (Rd w (some ⟨b, o, none⟩) (vals .i64 zs)) := Lib.hid (fun _ => ⟨b, o, rfl, hb, hr⟩)
  have HN := Lib.hid hn
  have hnil := fun w => Lib.run_eql_slice_nil (P := Try.prog) w 23 2 (some ⟨b, o, none⟩) n c 0 0 Try.underlying23
  clear hi hz0 hz1 hz2 hr hn
  go_enter Try.func50, Try.ntmps50
  go_wp2_with (at_builtin; refine wpList_app _ rfl (.tmp 5) (.tmp 6) _ rfl w.heap.size 2 i0 _ 8 Try.underlying23 HI.out HZ0.out HZ1.out HZ2.out rfl _ 0 0 [] rfl (Own.empty _ _ _ (Nat.le_refl _)) (some ⟨b, o, none⟩) n c (vals .i64 zs) rfl (by simpa using HN.out) (HR.out.alloc _) (one_vals _ _) (by unfold maxLen; omega) (by omega) (by simp) ?_; intro A' c' w2 hown hg hb2)
  have HO := Lib.hid hown
  have HB := Lib.hid (((Below.refl w.heap.size w).alloc (Nat.le_refl _) _).trans hb2)
  clear hown hg hb2
  go_ret
  refine ⟨A', c', ?_, ?_, HB.out⟩
  · simp [go_sem]
  · have := HO.out
    simpa using this

/-- What each gets, where k have been reckoned. -/
def subs (gs ps : List Int) (k : Nat) : List Int := (List.range gs.length).map fun i => gs.getD i 0 - if i < k then ps.getD i 0 else 0
@[simp] theorem subs_length (gs ps : List Int) (k : Nat) : (subs gs ps k).length = gs.length := by simp [subs]
theorem subs_zero (gs ps : List Int) : subs gs ps 0 = gs := by
  apply List.ext_getElem
  · simp
  · intro i h1 h2; simp [subs, h2]
theorem subs_get (gs ps : List Int) (k i : Nat) (h : i < gs.length) : (subs gs ps k).getD i 0 = gs.getD i 0 - if i < k then ps.getD i 0 else 0 := by simp [subs, h]
theorem subs_set (gs ps : List Int) (k : Nat) (h : k < gs.length) : (subs gs ps k).set k (gs.getD k 0 - ps.getD k 0) = subs gs ps (k + 1) := by
  apply List.ext_getElem
  · simp
  · intro i h1 h2
    simp only [List.getElem_set, subs, List.getElem_map, List.getElem_range]
    by_cases hi : k = i
    · subst hi; simp
    · rw [if_neg hi]
      by_cases h3 : i < k
      · rw [if_pos h3, if_pos (by omega)]
      · rw [if_neg h3, if_neg (by omega)]
theorem vals_set (k : IntKind) (l : List Int) (i : Nat) (x : Int) : (vals k l).set i (.int k x) = vals k (l.set i x) := by simp [vals, List.map_set]

/-- What is wrong with a whole. -/
def wholeE (L : List (ByteArray × Int)) (gs : List Int) (spent : Int) : Int := if givenB L gs = false ∨ amtB spent = false then 1 else adjE (sumL gs + spent) L
theorem given_facts {L : List (ByteArray × Int)} {gs : List Int} (h : givenB L gs = true) : mayB L = true ∧ gs.length = L.length ∧ ∀ x ∈ gs, 0 ≤ x ∧ x ≤ 1099511627776 := by
  unfold givenB at h
  simp only [Bool.and_eq_true, decide_eq_true_eq] at h
  refine ⟨h.1.1, h.1.2, fun x hx => ?_⟩
  obtain ⟨i, hi, rfl⟩ := List.mem_iff_getElem.1 hx
  have h2 := h.2 i hi
  have hv : i < (valsI L).length := by rw [valsI_length]; omega
  have e1 : gs.getD i 0 = gs[i] := by simp [hi]
  have e2 : (valsI L).getD i 0 = (valsI L)[i] := by rw [List.getD_eq_getElem?_getD, List.getElem?_eq_getElem hv]; rfl
  rw [e1, e2] at h2
  have := mayB_amt h.1.1 _ (List.getElem_mem hv)
  omega
theorem wholeE_zero {L : List (ByteArray × Int)} {gs : List Int} {spent : Int} (h : wholeE L gs spent = 0) : givenB L gs = true ∧ amtB spent = true ∧ adjE (sumL gs + spent) L = 0 := by
  unfold wholeE at h
  split at h
  · cases h
  · rename_i h1
    simp only [not_or, Bool.not_eq_false] at h1
    exact ⟨h1.1, h1.2, h⟩

set_option maxHeartbeats 1600000 in
theorem c_whole_bad (a b : Option Addr) (n c m d : Nat) (L : List (ByteArray × Int)) (gs : List Int) (spent : Int) (w : World) (hn : L.length = n) (hm : n ≤ 4096) (hr : Rd w a (cellsI L)) (hs : ∀ p ∈ L, p.1.size ≤ 9223372036854775807) (hg : gs.length = m) (hgm : m ≤ 9223372036854775807) (hb : Rd w b (vals .i64 gs)) (he : wholeE L gs spent ≠ 0) :
    Calls Try.prog 20 #[.slice a n c, .slice b m d, .int .i64 spent] w fun e w' => e = .returned (.tuple #[.slice none 0 0, .slice none 0 0, .int .i64 (wholeE L gs spent)]) ∧ Below w.heap.size w w' := by
  have HR := Lib.hid hr
  have HN := Lib.hid hn
  have HG := Lib.hid hg
  have HB := Lib.hid hb
  have HS := Lib.hid hs
  have HGv := Lib.hid (c_given a b n c m d L gs w hn hm hr hs hg hgm hb)
  have HA := Lib.hid (fun w => c_amount spent w)
  clear hr hn hg hb hs
  cases h1 : givenB L gs
  · have hE : wholeE L gs spent = 1 := by unfold wholeE; rw [if_pos (.inl h1)]
    rw [hE]
    rw [h1] at HGv
    clear h1 hE he
    go_enter Try.func20, Try.ntmps20
    go_wp2_with fail
    refine HGv.out.mono ?_
    rintro e w1 ⟨rfl, hb1⟩
    go_wp2_with fail
    go_ret3
    exact ⟨rfl, hb1⟩
  · rw [h1] at HGv
    cases h2 : amtB spent
    · have hE : wholeE L gs spent = 1 := by unfold wholeE; rw [if_pos (.inr h2)]
      rw [hE]
      rw [h2] at HA
      clear h1 h2 hE he
      go_enter Try.func20, Try.ntmps20
      go_wp2_with fail
      refine HGv.out.mono ?_
      rintro e w1 ⟨rfl, hb1⟩
      go_wp2_with fail
      refine (HA.out _).mono ?_
      rintro e w2 ⟨rfl, rfl⟩
      go_wp2_with fail
      go_ret3
      exact ⟨rfl, hb1⟩
    · have hE : wholeE L gs spent = adjE (sumL gs + spent) L := by unfold wholeE; rw [if_neg (by rw [h1, h2]; simp)]
      rw [hE] at he ⊢
      obtain ⟨f1, f2, f3⟩ := given_facts h1
      have hs0 := sumL_nonneg gs fun x hx => (f3 x hx).1
      have hs1 := sumL_le gs 1099511627776 fun x hx => (f3 x hx).2
      rw [HG.out] at f2 hs1
      rw [HN.out] at f2
      subst f2
      have HF3 := Lib.hid f3
      have HE := Lib.hid he
      have hEb := adjE_bd (sumL gs + spent) L
      have hamt : 0 ≤ spent ∧ spent ≤ 1099511627776 := by unfold amtB at h2; simpa using h2
      obtain ⟨a0, a1⟩ := hamt
      rw [h2] at HA
      have HSum := Lib.hid (fun w hr => c_asum b m d gs w HG.out hm hr f3)
      have HAdj := Lib.hid (fun w hr => c_adjust_bad (sumL gs + spent) a m c L w HN.out hm hr HS.out HE.out)
      clear h1 h2 f1 f3 hE
      generalize sumL gs = sg at *
      have e1 : IntKind.i64.wrap (sg + spent) = sg + spent := IntWalk.i64_in _ (by omega)
      have t1 : (adjE (sg + spent) L != 0) = true := by simpa using he
      clear he
      generalize adjE (sg + spent) L = E at *
      go_enter Try.func20, Try.ntmps20
      go_wp2_with fail
      refine HGv.out.mono ?_
      rintro e w1 ⟨rfl, hb1⟩
      go_wp2_with fail
      refine (HA.out _).mono ?_
      rintro e w2 ⟨rfl, rfl⟩
      go_wp2_with fail
      refine (HSum.out _ (HB.out.below hb1)).mono ?_
      rintro e w2 ⟨rfl, rfl⟩
      go_wp2_with fail
      refine (HAdj.out _ (HR.out.below hb1)).mono ?_
      rintro e w2 ⟨rfl, hb2⟩
      go_wp2_with fail
      go_ret3
      exact ⟨rfl, hb1.trans (hb2.mono hb1.size)⟩

/-- Whole's answer. -/
def WholeOk (w : World) (L : List (ByteArray × Int)) (gs : List Int) (spent : Int) (n : Nat) (e : Ending) (w' : World) : Prop :=
  ∃ b t A c, e = .returned (.tuple #[.slice (some ⟨b, 0, none⟩) n n, .slice A n c, .int .i64 0]) ∧ Blk w' b t (rowI .i64 (partsOf (sumL gs + spent) (valsI L))) ∧ Own w' w.heap.size 2 A n c (vals .i64 (subs gs (partsOf (sumL gs + spent) (valsI L)) n)) ∧ Below w.heap.size w w'

set_option maxHeartbeats 3200000 in
theorem c_whole (a b : Option Addr) (n c m d : Nat) (L : List (ByteArray × Int)) (gs : List Int) (spent : Int) (w : World) (hn : L.length = n) (hm : n ≤ 4096) (hr : Rd w a (cellsI L)) (hs : ∀ p ∈ L, p.1.size ≤ 9223372036854775807) (hg : gs.length = m) (hgm : m ≤ 9223372036854775807) (hb : Rd w b (vals .i64 gs)) (he : wholeE L gs spent = 0) :
    Calls Try.prog 20 #[.slice a n c, .slice b m d, .int .i64 spent] w (WholeOk w L gs spent n) := by
  obtain ⟨h1, h2, h3⟩ := wholeE_zero he
  obtain ⟨g1, g2, g3, g4⟩ := adjE_zero h3
  obtain ⟨k1, k2, k3, k4, k5, k6⟩ := errS_zero g4
  obtain ⟨f1, f2, f3⟩ := given_facts h1
  have hs0 := sumL_nonneg gs fun x hx => (f3 x hx).1
  have hs1 := sumL_le gs 1099511627776 fun x hx => (f3 x hx).2
  have HN := Lib.hid hn
  have HG := Lib.hid hg
  rw [hg] at f2 hs1
  rw [hn] at f2
  subst f2
  rw [valsI_length, hn] at k3
  have HR := Lib.hid hr
  have HB := Lib.hid hb
  have HGv := c_given a b m c m d L gs w hn hm hr hs hg hgm hb
  rw [h1] at HGv
  have HGv := Lib.hid HGv
  have hA := fun w => c_amount spent w
  rw [h2] at hA
  have HA := Lib.hid hA
  have HSum := Lib.hid (fun w hr => c_asum b m d gs w hg hm hr f3)
  have HAdj := Lib.hid (fun w hr => c_adjust (sumL gs + spent) a m c L w hn hm hr hs h3)
  have HCl := Lib.hid (fun w hr => c_clone b m d gs w hg (by omega) hm hr)
  have hamt : 0 ≤ spent ∧ spent ≤ 1099511627776 := by unfold amtB at h2; simpa using h2
  obtain ⟨a0, a1⟩ := hamt
  have hPB : ∀ i, i < m → 0 ≤ (partsOf (sumL gs + spent) (valsI L)).getD i 0 ∧ (partsOf (sumL gs + spent) (valsI L)).getD i 0 ≤ 1099511627777 := by
    intro i hi
    have hi2 : i < (valsI L).length := by rw [valsI_length, hn]; exact hi
    have p0 := parts_nonneg (sumL gs + spent) (valsI L) k1 (fun x hx => (k5 x hx).1) ((partsOf (sumL gs + spent) (valsI L)).getD i 0) (by
      have hi3 : i < (partsOf (sumL gs + spent) (valsI L)).length := by simpa using hi2
      have e : (partsOf (sumL gs + spent) (valsI L)).getD i 0 = (partsOf (sumL gs + spent) (valsI L))[i] := by rw [List.getD_eq_getElem?_getD, List.getElem?_eq_getElem hi3]; rfl
      rw [e]; exact List.getElem_mem _)
    refine ⟨p0, ?_⟩
    rw [parts_get _ _ i hi2]
    have hS0 := sumL_nonneg (valsI L) fun x hx => (k5 x hx).1
    have hle : (sumL gs + spent) * (valsI L)[i] / sumL (valsI L) ≤ sumL gs + spent := by
      by_cases hS : sumL (valsI L) = 0
      · rw [hS]; simp; omega
      · have h5 := k5 _ (List.getElem_mem hi2)
        have h6 := mem_le_sum (valsI L) (fun x hx => (k5 x hx).1) _ (List.getElem_mem hi2)
        have h7 : (sumL gs + spent) * (valsI L)[i] ≤ (sumL gs + spent) * sumL (valsI L) := Int.mul_le_mul_of_nonneg_left h6 k1
        have h8 := Int.ediv_le_ediv (show 0 < sumL (valsI L) by omega) h7
        rwa [Int.mul_ediv_cancel _ (by omega)] at h8
    split <;> omega
  have hGB : ∀ i, i < m → 0 ≤ gs.getD i 0 ∧ gs.getD i 0 ≤ 1099511627776 := by
    intro i hi
    have hi2 : i < gs.length := by rw [hg]; exact hi
    have e : gs.getD i 0 = gs[i] := by rw [List.getD_eq_getElem?_getD, List.getElem?_eq_getElem hi2]; rfl
    rw [e]
    exact f3 _ (List.getElem_mem hi2)
  have HPB := Lib.hid hPB
  have HGB := Lib.hid hGB
  have HLP := Lib.hid (show (partsOf (sumL gs + spent) (valsI L)).length = m by rw [partsOf_length, valsI_length, hn])
  have hz : sumL gs + spent = sumL gs + spent := rfl
  clear hr hn hg hb hs he h1 h2 h3 g1 g2 g3 g4 k1 k2 k4 k5 k6 f1 f3 hA hPB hGB hz
  have e1 : IntKind.i64.wrap (sumL gs + spent) = sumL gs + spent := IntWalk.i64_in _ (by omega)
  go_enter Try.func20, Try.ntmps20
  go_wp2_with fail
  refine HGv.out.mono ?_
  rintro e w1 ⟨rfl, hb1⟩
  go_wp2_with fail
  refine (HA.out _).mono ?_
  rintro e w2 ⟨rfl, rfl⟩
  go_wp2_with fail
  refine (HSum.out _ (HB.out.below hb1)).mono ?_
  rintro e w2 ⟨rfl, rfl⟩
  go_wp2_with fail
  refine (HAdj.out _ (HR.out.below hb1)).mono ?_
  rintro e w2 ⟨b2, t2, rfl, hl2, hb2, hP2⟩
  have hB2 := Lib.hid (hb1.trans (hb2.mono hb1.size))
  have hz2 := hB2.out.size
  have HP2 := Lib.hid hP2
  have hlt2 := hP2.lt
  clear hb1 hb2 hP2 hl2
  go_wp2_with fail
  refine (HCl.out _ (HB.out.below hB2.out)).mono ?_
  rintro e w3 ⟨A', c', rfl, hO, hb3⟩
  have HO := Lib.hid hO
  have hP3 := Lib.hid (HP2.out.below hb3 hlt2)
  have hB3 := Lib.hid (hB2.out.trans (hb3.mono hz2))
  clear hO hb3
  generalize hps : partsOf (sumL gs + spent) (valsI L) = ps at *
  have HPS := Lib.hid hps
  clear hps
  go_wp2_with fail
  go_loopw [39] (fun x wr => ∃ (k : Nat), x = .int .i64 k ∧ k ≤ m ∧ Hid (Own wr w2.heap.size 2 A' m c' (vals .i64 (subs gs ps k))) ∧ Hid (Blk wr b2 t2 (rowI .i64 ps)) ∧ Hid (Below w.heap.size w wr)) (fun x _ => m - (intOf x).toNat)
  case atStart => exact ⟨0, rfl, by omega, by show Own _ _ _ _ _ _ _; rw [subs_zero]; exact HO.out, hP3.out, hB3.out⟩
  case round =>
    obtain ⟨k, rfl, hk, hO, hP, hB⟩ := hrel
    by_cases hlt : k < m
    · obtain ⟨g, rfl, hg1, hg2, hgf, hgc, hgs⟩ := hO.out.at k hlt
      have pc := hP.out.cell k (rowI_get .i64 ps k (by rw [HLP.out]; exact hlt))
      have hkg : k < gs.length := by rw [HG.out]; exact hlt
      have hsg := subs_get gs ps k k hkg
      rw [if_neg (by omega), Int.sub_zero] at hsg
      have hgc2 : wr.cell? ⟨g, k, none⟩ = some (.int .i64 (gs.getD k 0)) := by
        rw [hgc, ← hsg]
        have : k < (subs gs ps k).length := by rw [subs_length]; exact hkg
        simp only [vals, List.getElem?_map, List.getElem?_eq_getElem this, List.getD_eq_getElem?_getD, Option.getD_some, Option.map_some]
      have hset := subs_set gs ps k hkg
      obtain ⟨p0, p1⟩ := HPB.out k hlt
      obtain ⟨q0, q1⟩ := HGB.out k hlt
      have HSet := Lib.hid hset
      have HGS := Lib.hid hgs
      clear hgc hset hgs hsg
      generalize ps.getD k 0 = p at *
      generalize gs.getD k 0 = q at *
      have e2 : IntKind.i64.wrap (q - p) = q - p := IntWalk.i64_in _ (by omega)
      go_wp2
      go_roundw
      case rel =>
        refine ⟨k + 1, by go_num, by omega, ?_, ?_, ?_⟩
        · show Own _ _ _ _ _ _ _
          rw [← HSet.out, ← vals_set]
          exact HGS.out _
        · exact hP.out.far (by simp; omega) _
        · exact hB.out.setCell (by simp; omega) _
      case measure => simp [intOf]; omega
    · obtain rfl : k = m := by omega
      go_wp2
      go_ret3
      exact ⟨b2, t2, A', c', rfl, by rw [HPS.out]; exact hP.out, by rw [HPS.out]; exact hO.out.mono hz2, hB.out⟩

end Go.Proofs.Ytbcmaaoddnaoiaa
