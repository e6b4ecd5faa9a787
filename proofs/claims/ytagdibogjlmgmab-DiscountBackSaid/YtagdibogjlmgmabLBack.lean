/-
  The law DiscountBack: its walk.
-/
import Derived.Test.YtagdibogjlmgmabSched
import Derived.Test.YtagdibogjlmgmabWf
import Derived.Deep.RegionHeld3
namespace Go.Proofs.Ytagdibogjlmgmab
set_option linter.unusedVariables false
set_option linter.unusedSimpArgs false
open Go.RowKit

theorem near_alt (n d : Int) : near n d = if d - n % d ≤ n % d then n / d + 1 else n / d := by
  unfold near
  split <;> split <;> omega

set_option maxHeartbeats 800000 in
theorem c_nearR (n d : Int) (w : World) (hn : 0 ≤ n) (hn' : n ≤ 9223372036854775807) (hd : 1 ≤ d) (hd' : d ≤ 2305843009213693952) :
    Calls Try.prog 7 #[.agg #[.int .i64 n, .int .i64 d]] w fun e w' => e = .returned (.int .i64 (near n d)) ∧ Below w.heap.size w w' := by
  have h1 := Int.emod_nonneg n (show d ≠ 0 by omega)
  have h2 := Int.emod_lt_of_pos n (show 0 < d by omega)
  have h3 := div_le n d hn hd
  have h4 := Int.ediv_nonneg hn (show 0 ≤ d by omega)
  have hb := near_bd n d hn hd
  have ha := near_alt n d
  by_cases hx : d - n % d ≤ n % d
  · rw [if_pos hx] at ha
    rw [ha] at hb
    have HA := Lib.hid ha
    clear ha
    go_enter Try.func7, Try.ntmps7
    go_wp2
    go_quiet (fail)
    go_wp2
    go_ret
    exact ⟨ret_i HA.out.symm, below_drewN ((Below.refl _ _).alloc (Nat.le_refl _) _) _⟩
  · rw [if_neg hx] at ha
    rw [ha] at hb
    have HA := Lib.hid ha
    clear ha
    go_enter Try.func7, Try.ntmps7
    go_wp2
    go_quiet (fail)
    go_wp2
    go_ret
    exact ⟨ret_i HA.out.symm, below_drewN ((Below.refl _ _).alloc (Nat.le_refl _) _) _⟩

set_option maxHeartbeats 800000 in
theorem l_back_mid (S n d m t base : Int) (w : World) (h : 60 < m) (h2 : m ≤ 4096) :
    Calls Try.prog 3 #[.int .i64 S, .agg #[.int .i64 n, .int .i64 d], .int .i64 m, .int .i64 t, .int .i64 base] w fun e w' => e = .returned (.bool true) ∧ Below w.heap.size w w' := by
  go_enter Try.func3, Try.ntmps3
  go_wp2_with fail
  refine (c_awake39 _).mono ?_
  rintro e w1 ⟨rfl, hb1⟩
  go_wp2_with fail
  go_ret
  exact ⟨rfl, ((Below.refl _ _).alloc (Nat.le_refl _) _).trans (hb1.mono (by simp))⟩

/-- Schedule answers nothing. -/
def NoSched (S n d m t base : Int) : Prop := ∀ w, Calls Try.prog 5 #[.int .i64 S, .agg #[.int .i64 n, .int .i64 d], .int .i64 m, .int .i64 t, .int .i64 base] w fun e w' => e = .returned (.tuple #[.slice none 0 0, .slice none 0 0, .bool false]) ∧ Below w.heap.size w w'
set_option maxHeartbeats 800000 in
theorem l_back_no (S n d m t base : Int) (w : World) (h : m ≤ 60 ∨ (60 < m ∧ 4096 < m)) (hs : NoSched S n d m t base) :
    Calls Try.prog 3 #[.int .i64 S, .agg #[.int .i64 n, .int .i64 d], .int .i64 m, .int .i64 t, .int .i64 base] w fun e w' => e = .returned (.bool true) ∧ Below w.heap.size w w' := by
  rcases h with h | ⟨h, h2⟩
  all_goals
    go_enter Try.func3, Try.ntmps3
    go_wp2_with fail
    refine (c_awake39 _).mono ?_
    rintro e w1 ⟨rfl, hb1⟩
    obtain ⟨hc, hf⟩ := bcell hb1
    have z1 := hb1.size
    simp at z1
    have hB := Lib.hid (((Below.refl w.heap.size w).alloc (Nat.le_refl _) (.cells #[.int .i64 n, .int .i64 d] 23)).trans (hb1.mono (by simp)))
    have p0 : w1.cell? ⟨w.heap.size, 0, none⟩ = some (.int .i64 n) := (hc _ 0 (by go_size)).trans (by first | assumption | (simp [go_sem]; done))
    have p1 : w1.cell? ⟨w.heap.size, 1, none⟩ = some (.int .i64 d) := (hc _ 1 (by go_size)).trans (by first | assumption | (simp [go_sem]; done))
    clear hc hf hb1
    go_wp2_with fail
    refine (hs _).mono ?_
    rintro e w2 ⟨rfl, hb2⟩
    go_wp2_with fail
    go_ret
    exact ⟨rfl, hB.out.trans (hb2.mono (by omega))⟩

set_option maxRecDepth 100000 in
set_option maxHeartbeats 3200000 in
theorem l_back_yes (S n d t base : Int) (m : Nat) (w : World) (h1 : 1 ≤ m) (h2 : m ≤ 60) (he : errS S (ones m) = 0) :
    Calls Try.prog 3 #[.int .i64 S, .agg #[.int .i64 n, .int .i64 d], .int .i64 (m : Int), .int .i64 t, .int .i64 base] w fun e w' => e = .returned (.bool true) ∧ Below w.heap.size w w' := by
  have HS := Lib.hid (fun w => c_sched S n d t base m w h1 (by omega) he)
  obtain ⟨hS, hS2, _⟩ := errS_zero he
  have HLB := Lib.hid (left_bounds S m h1 (by omega) hS)
  have hsum := Lib.hid (parts_sum S (ones m) (by rw [sumL_ones]; omega))
  have HPN := Lib.hid (parts_nonneg S (ones m) hS (by intro x hx; simp [ones] at hx; omega))
  have HPG := Lib.hid (fun i hi => parts_ones S m h1 i hi)
  have HLen := Lib.hid (show (partsOf S (ones m)).length = m by simp)
  clear he
  go_enter Try.func3, Try.ntmps3
  go_wp2_with fail
  refine (c_awake39 _).mono ?_
  rintro e w1 ⟨rfl, hb1⟩
  obtain ⟨hc, hf⟩ := bcell hb1
  have z1 := hb1.size
  simp at z1
  have hB := Lib.hid (((Below.refl w.heap.size w).alloc (Nat.le_refl _) (.cells #[.int .i64 n, .int .i64 d] 23)).trans (hb1.mono (by simp)))
  have HBlk : Hid (Blk w1 w.heap.size 23 #[.int .i64 n, .int .i64 d]) := Lib.hid ((Blk.new w _ _).below hb1 (Blk.new w _ _).lt)
  have p0 := HBlk.out.cell 0 rfl
  have p1 := HBlk.out.cell 1 rfl
  clear hc hf hb1
  go_wp2_with fail
  refine (HS.out _).mono ?_
  rintro e w2 ⟨hok, hb2⟩
  have HB2 := Lib.hid (hB.out.trans (hb2.mono (by omega)))
  have HBlk2 := Lib.hid (HBlk.out.below hb2 HBlk.out.lt)
  clear p0 p1 hb2
  rcases hok with rfl | ⟨b, tb, A, c, rfl, hP, hR, hall⟩
  · go_wp2_with fail
    go_ret
    exact ⟨rfl, HB2.out⟩
  · have hP := Lib.hid hP
    have hR := Lib.hid hR
    have hAll := Lib.hid hall
    clear hall
    obtain ⟨gA, oA, rfl, hgA, hcA⟩ := hR.out (by
      intro h
      have := congrArg List.length h
      simp at this
      omega)
    have HCA : Hid (∀ j, j < m → w2.cell? ⟨gA, oA + j, none⟩ = some (.int .i64 (dueV (leftAt S (partsOf S (ones m)) j) n d t base))) := Lib.hid (fun j hj => hcA j _ (by simp [vals, dues, hj]))
    clear hcA
    have HCB : Hid (∀ j, j < m → w2.cell? ⟨b, j, none⟩ = some (.int .i64 (S / m + if (j : Int) < S % m then 1 else 0))) := Lib.hid (fun j hj => by
      have := hP.out.cell j (rowI_get .i64 (partsOf S (ones m)) j (by rw [HLen.out]; exact hj))
      rwa [HPG.out j hj] at this)
    have d0 : 0 ≤ S / m := Int.ediv_nonneg hS (by omega)
    have d1 : S / m ≤ S := Int.ediv_le_self _ hS
    go_wp2_with fail
    go_loopw [14, 15] (fun x y wr => ∃ (k q : Nat) (u : Int), x = .int .i64 u ∧ y = .int .i64 k ∧ k ≤ m ∧ 0 ≤ u ∧ u ≤ S ∧ Hid (u = sumL ((partsOf S (ones m)).take k)) ∧ wr = w2.drewN q) (fun _ y _ => m - (intOf y).toNat)
    case atStart => exact ⟨0, 0, 0, rfl, rfl, by omega, by omega, hS, by show _ = _; simp [sumL], rfl⟩
    case round =>
      obtain ⟨k, q, u, rfl, rfl, hk, u0, u1, hu, rfl⟩ := hrel
      by_cases hlt : k < m
      · have a0 := HCA.out k hlt
        have b0 := HCB.out k hlt
        have bz := HCB.out 0 (by omega)
        have hkm : (k : Int) < m := by omega
        have hm0 : (0 : Int) < m := by omega
        have hts := sumL_take_succ' (partsOf S (ones m)) k (by rw [HLen.out]; exact hlt)
        have hpe : (partsOf S (ones m))[k]'(by rw [HLen.out]; exact hlt) = S / m + if (k : Int) < S % m then 1 else 0 := by
          rw [← HPG.out k hlt]; simp [hlt]
        rw [hpe] at hts
        have hle := sumL_take_le _ HPN.out (k + 1)
        rw [hsum.out, hts, ← hu.out] at hle
        have HTS := Lib.hid hts
        obtain ⟨le0, le1⟩ := hle
        clear hpe hts
        have hvb : ∀ j : Nat, 0 ≤ (S / m + if (j : Int) < S % m then (1 : Int) else 0) ∧ (S / m + if (j : Int) < S % m then (1 : Int) else 0) ≤ S + 1 := fun j => by split <;> omega
        have HVB := Lib.hid hvb
        clear hvb
        have TR : Hid (∀ q' : Nat, ∃ (k' q'' : Nat) (u' : Int), Value.int .i64 (u + (S / m + if (k : Int) < S % m then 1 else 0)) = .int .i64 u' ∧ Value.int .i64 ((k : Int) + 1) = .int .i64 k' ∧ k' ≤ m ∧ 0 ≤ u' ∧ u' ≤ S ∧ Hid (u' = sumL ((partsOf S (ones m)).take k')) ∧ w2.drewN q' = w2.drewN q'') := Lib.hid (fun q' =>
          ⟨k + 1, q', _, rfl, by go_num, by omega, le0, le1, by show _ = _; rw [HTS.out, hu.out], rfl⟩)
        rcases Nat.eq_zero_or_pos k with hk0 | hk0
        · subst hk0
          rw [Nat.add_zero] at a0
          clear bz
          obtain ⟨v0, v1⟩ := HVB.out 0
          generalize (S / m + if ((0 : Nat) : Int) < S % m then (1 : Int) else 0) = v at *
          generalize dueV (leftAt S (partsOf S (ones m)) 0) n d t base = y at *
          have t1 : decide ((1 : Int) < v - v) = false := by simp
          have t2 : IntKind.i64.wrap (v - v) = v - v := IntWalk.i64_in _ (by omega)
          go_wp2
          go_quiet (fail)
          go_wp2
          go_roundw
          case rel => exact TR.out _
          case measure => simp [intOf]; omega
        · obtain ⟨j, rfl⟩ : ∃ j, k = j + 1 := ⟨k - 1, by omega⟩
          have a1 := HCA.out j (by omega)
          have b1 := HCB.out j (by omega)
          have hle2 : dueV (leftAt S (partsOf S (ones m)) (j + 1)) n d t base ≤ dueV (leftAt S (partsOf S (ones m)) j) n d t base := by
            refine due_mono ?_ (hAll.out (j + 1) hlt) (hAll.out j (by omega))
            rw [leftAt_succ S _ j (by rw [HLen.out]; omega)]
            have : 0 ≤ (partsOf S (ones m))[j]'(by rw [HLen.out]; omega) := HPN.out _ (List.getElem_mem _)
            omega
          have hvv : (S / m + if ((j + 1 : Nat) : Int) < S % m then (1 : Int) else 0) ≤ (S / m + if (j : Int) < S % m then (1 : Int) else 0) := by split <;> split <;> omega
          have hv0 : (S / m + if ((0 : Nat) : Int) < S % m then (1 : Int) else 0) - (S / m + if ((j + 1 : Nat) : Int) < S % m then (1 : Int) else 0) ≤ 1 ∧ 0 ≤ (S / m + if ((0 : Nat) : Int) < S % m then (1 : Int) else 0) - (S / m + if ((j + 1 : Nat) : Int) < S % m then (1 : Int) else 0) := by
            constructor <;> (split <;> split <;> omega)
          obtain ⟨v0, v1⟩ := HVB.out (j + 1)
          generalize (S / m + if ((j + 1 : Nat) : Int) < S % m then (1 : Int) else 0) = v at *
          generalize (S / m + if ((j : Nat) : Int) < S % m then (1 : Int) else 0) = vp at *
          generalize (S / m + if ((0 : Nat) : Int) < S % m then (1 : Int) else 0) = vz at *
          generalize dueV (leftAt S (partsOf S (ones m)) (j + 1)) n d t base = y at *
          generalize dueV (leftAt S (partsOf S (ones m)) j) n d t base = yp at *
          have t0 : decide ((0 : Int) < ((j + 1 : Nat) : Int)) = true := by simp only [decide_eq_true_eq]; omega
          have t1 : decide (yp < y) = false := by simp; omega
          have t2 : decide (vp < v) = false := by simp; omega
          have t3 : decide (1 < vz - v) = false := by simp; omega
          have t4 : IntKind.i64.wrap (vz - v) = vz - v := IntWalk.i64_in _ (by omega)
          have t5 : IntKind.i64.wrap (((j + 1 : Nat) : Int) - 1) = j := (IntWalk.i64_in _ (by omega)).trans (by omega)
          have t6 : (j : Int) < m := by omega
          go_wp2
          go_quiet (fail)
          go_wp2
          go_roundw
          case rel => exact TR.out _
          case measure => simp [intOf]; omega
      · obtain rfl : k = m := by omega
        have hu1 : u = S := by
          have := hu.out
          rw [List.take_of_length_le (by rw [HLen.out]; exact Nat.le_refl _), hsum.out] at this
          exact this
        subst hu1
        have hB0 := hAll.out 0 (by omega)
        have hl0 : leftAt u (partsOf u (ones k)) 0 = u := by simp [leftAt, sumL]
        rw [hl0] at hB0
        have ca := HCA.out 0 (by omega)
        rw [hl0, Nat.add_zero] at ca
        have HI := Lib.hid (fun w => c_interest_t u n d t base w hB0)
        obtain ⟨f1, f2, f3, f4, f5, f6⟩ := int_facts hB0
        have HN := Lib.hid (fun w => c_nearR (intN u n d t base) (intD u n d t base) w f3 f4 f5 (by omega))
        have p0 := HBlk2.out.cell 0 rfl
        have p1 := HBlk2.out.cell 1 rfl
        have hk0 : (0 : Int) < k := by omega
        have HCa := Lib.hid ca
        clear hB0 hl0 hu HCA HCB
        go_wp2_with fail
        refine (HI.out _).mono ?_
        rintro e w3 ⟨rfl, hb3⟩
        have HB3 := Lib.hid ((below_drewN HB2.out q).trans (hb3.mono HB2.out.size))
        have z3 : gA < w3.heap.size := Nat.lt_of_lt_of_le hgA hb3.size
        have c3 : w3.cell? ⟨gA, oA, none⟩ = some (.int .i64 (dueV u n d t base)) := (hb3.cell (p := ⟨gA, oA, none⟩) hgA).trans ca
        clear ca p0 p1 hb3
        unfold dueV at c3
        generalize intN u n d t base = N at *
        generalize intD u n d t base = D at *
        generalize near N D = V at *
        go_wp2_with fail
        have q3 : (w3.alloc (.cells #[.int .i64 N, .int .i64 D] 23)).cell? ⟨gA, oA, none⟩ = some (.int .i64 V) := (World.cell?_alloc_lt _ _ _ z3).trans c3
        have HQ3 := Lib.hid q3
        have HB4 := Lib.hid (HB3.out.alloc HB3.out.size (.cells #[.int .i64 N, .int .i64 D] 23))
        have z4 : gA < (w3.alloc (.cells #[.int .i64 N, .int .i64 D] 23)).heap.size := by simp; omega
        clear q3
        have HBN := Lib.hid (Blk.new w3 23 #[.int .i64 N, .int .i64 D])
        have k0 := HBN.out.cell 0 rfl
        have k1 := HBN.out.cell 1 rfl
        have q3 := HQ3.out
        generalize w3.alloc (.cells #[.int .i64 N, .int .i64 D] 23) = wz at *
        have hkN : 0 < k := by omega
        go_region_held3 (fun wx => wx.cell? ⟨gA, oA, none⟩ = some (.int .i64 V) ∧ wx.cell? ⟨w3.heap.size, 0, none⟩ = some (.int .i64 N) ∧ wx.cell? ⟨w3.heap.size, 1, none⟩ = some (.int .i64 D)) (go_keep) ((go_at_call 7; (with_reducible refine (HN.out _).mono ?_); (rintro e w4 ⟨rfl, hb⟩); (have q5 : w4.cell? ⟨gA, oA, none⟩ = some (.int .i64 V) := (hb.cell (p := ⟨gA, oA, none⟩) z4).trans HQ3.out); (have k2 := (HBN.out.drew.below hb HBN.out.drew.lt).cell 0 rfl); (have k3 := (HBN.out.drew.below hb HBN.out.drew.lt).cell 1 rfl); (have HB5 := Lib.hid (HB4.out.drew.trans (hb.mono HB4.out.drew.size))); (clear hb)))
        go_wp2
        go_ret
        exact ⟨rfl, HB5.out⟩

theorem l_back (S n d m t base : Int) (w : World) (wS : (Lit.int .i64 S).wf = true) (wn : (Lit.int .i64 n).wf = true) (wd : (Lit.int .i64 d).wf = true) (wm : (Lit.int .i64 m).wf = true) (wt : (Lit.int .i64 t).wf = true) (wb : (Lit.int .i64 base).wf = true) :
    Calls Try.prog 3 #[.int .i64 S, .agg #[.int .i64 n, .int .i64 d], .int .i64 m, .int .i64 t, .int .i64 base] w fun e w' => e = .returned (.bool true) ∧ Below w.heap.size w w' := by
  by_cases h : 60 < m
  · by_cases h2 : m ≤ 4096
    · exact l_back_mid S n d m t base w h h2
    · exact l_back_no S n d m t base w (.inr ⟨h, by omega⟩) fun w => c_sched_no S n d m t base w (.inr ⟨by omega, by omega⟩)
  · by_cases h1 : m < 1
    · exact l_back_no S n d m t base w (.inl (by omega)) fun w => c_sched_no S n d m t base w (.inl h1)
    · obtain ⟨k, rfl⟩ := Int.eq_ofNat_of_zero_le (show 0 ≤ m by omega)
      by_cases he : errS S (ones k) = 0
      · exact l_back_yes S n d t base k w (by omega) (by omega) he
      · exact l_back_no S n d k t base w (.inl (by omega)) fun w => c_sched_bad S n d t base k w (by omega) (by omega) he

end Go.Proofs.Ytagdibogjlmgmab
