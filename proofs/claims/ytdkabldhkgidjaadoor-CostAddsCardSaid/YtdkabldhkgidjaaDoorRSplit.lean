/-
  The reference's Split: its walk.
-/
import Derived.Test.YtdkabldhkgidjaaDoorRSplitNum
import Derived.Test.YtdkabldhkgidjaaDoorRTimes
import Derived.Test.YtdkabldhkgidjaaDoorWrong
import Derived.Test.YtdkabldhkgidjaaDoorSplitMk
import Derived.Test.YtdkabldhkgidjaaDoorErrNum
namespace Go.Proofs.YtdkabldhkgidjaaDoor
set_option linter.unusedVariables false
set_option linter.unusedSimpArgs false
open Go.RowKit

set_option maxHeartbeats 3200000 in
theorem c_rsplit_main (T : Int) (a : Option Addr) (n c : Nat) (zs : List Int) (w : World) (hn : zs.length = n) (hm : n ≤ 4096) (hr : Rd w a (vals .i64 zs)) (hT : 0 ≤ T) (hT2 : T ≤ 1099511627776) (hz : ∀ x ∈ zs, 0 ≤ x ∧ x ≤ 1099511627776) (hS : 0 < sumL zs) :
    Calls Tryd.prog 35 #[.int .i64 T, .slice a n c] w fun e w' => ∃ b t, e = .returned (.slice (some ⟨b, 0, none⟩) n n) ∧ w.heap.size ≤ b ∧ Below w.heap.size w w' ∧ Blk w' b t (rowI .i64 (partsOf T zs)) := by
  have hmk := mk38 n hm
  have HR := Lib.hid hr
  have HZ := Lib.hid hz
  have HN := Lib.hid hn
  have HS := Lib.hid hS
  clear hr hn hz hS
  go_enter Tryd.func35, Tryd.ntmps35
  go_wp2
  have F0 : Hid (Two w ((w.alloc (.cells (zer .i64 n) 2)).alloc (.cells (zer .i64 n) 2)) (List.replicate n 0) (List.replicate n 0)) := Lib.hid (Two.new w n)
  generalize (w.alloc (.cells (zer .i64 n) 2)).alloc (.cells (zer .i64 n) 2) = wo at F0 ⊢
  go_loop [7, 8] (fun x y => ∃ (k : Nat) (s : Int), y = .int .i64 k ∧ x = .int .i64 s ∧ k ≤ n ∧ 0 ≤ s ∧ s ≤ 1099511627776 * k ∧ Hid (s = sumL (zs.take k))) (fun _ y => n - (intOf y).toNat)
  case atStart => exact ⟨0, 0, rfl, rfl, by omega, by omega, by omega, by show _ = _; simp [sumL]⟩
  case round =>
    obtain ⟨k, s, rfl, rfl, hk, hs0, hs1, hs⟩ := hrel
    by_cases hlt : k < n
    · have hkz : k < zs.length := by rw [HN.out]; exact hlt
      obtain ⟨b, o, rfl, hb, hall, hc⟩ := (HR.out.below F0.out.below).at k (by simpa using hkz)
      clear hall
      rw [vals_get .i64 zs k hkz] at hc
      have ht := sumL_take_succ' zs k hkz
      obtain ⟨z0, z1⟩ := HZ.out zs[k] (List.getElem_mem hkz)
      generalize zs[k] = x at *
      have HT := Lib.hid ht
      clear ht
      go_wp2
      go_round
      case rel => exact ⟨k + 1, s + x, by go_num, rfl, by omega, by omega, by omega, by have h1 := HT.out; have h2 := hs.out; show _ = _; omega⟩
      case measure => simp [intOf]; omega
    · obtain rfl : k = n := by omega
      have hs' : s = sumL zs := by
        have := hs.out
        rwa [List.take_of_length_le (by rw [HN.out]; exact Nat.le_refl _)] at this
      have hS := HS.out
      rw [← hs'] at hS
      have HS' := Lib.hid hs'
      have ts : (s == 0) = false := by simp; omega
      clear hs' hs HS
      go_wp2
      go_loopw [9, 10] (fun x y wr => ∃ (i : Nat) (lf : Int), y = .int .i64 i ∧ x = .int .i64 lf ∧ i ≤ k ∧ T - 1099511627776 * i ≤ lf ∧ lf ≤ T ∧ Hid (lf = T - sumL ((qs T s zs).take i)) ∧ Two w wr (part (qs T s zs) k i) (part (rs T s zs) k i)) (fun _ y _ => k - (intOf y).toNat)
      case atStart =>
        refine ⟨0, T, rfl, rfl, by omega, by omega, by omega, by show _ = _; simp [sumL], ?_⟩
        rw [part_zero, part_zero]
        exact F0.out
      case round =>
        obtain ⟨i, lf, rfl, rfl, hi, hl0, hl1, hlf, F⟩ := hrel
        by_cases hlt : i < k
        · have hkz : i < zs.length := by rw [HN.out]; exact hlt
          obtain ⟨b, o, rfl, hb, hall, hc⟩ := (HR.out.below F.below).at i (by simpa using hkz)
          clear hall
          rw [vals_get .i64 zs i hkz] at hc
          obtain ⟨z0, z1⟩ := HZ.out zs[i] (List.getElem_mem hkz)
          have zS : zs[i] ≤ s := by rw [HS'.out]; exact mem_le_sum zs (fun x hx => (HZ.out x hx).1) _ (List.getElem_mem hkz)
          have hq := Lib.hid (qs_getD T s zs i hkz)
          have hr := Lib.hid (rs_getD T s zs i hkz)
          have hts := Lib.hid (qs_take_succ T s zs i hkz)
          have lq : (qs T s zs).length = k := by simp [qs, HN.out]
          have lr : (rs T s zs).length = k := by simp [rs, HN.out]
          have hLq := Lib.hid lq
          have hLr := Lib.hid lr
          have pc := F.parts.cell i (rowI_get .i64 _ i (by rw [part_length _ _ _ lq hi]; exact hlt))
          have rc := F.rests.cell i (rowI_get .i64 _ i (by rw [part_length _ _ _ lr hi]; exact hlt))
          have pf := F.parts.free i
          have rf := F.rests.free i
          clear lq lr
          obtain ⟨q0, q1⟩ := q_bd0 T s zs[i] (by omega) (by omega) z0 zS
          have htm := fun w => c_rtimes T zs[i] s w (by omega) (by omega) z0 (by omega) (by omega) (by omega) (by omega)
          have r0 := Int.emod_nonneg (T * zs[i]) (show s ≠ 0 by omega)
          have r1 := Int.emod_lt_of_pos (T * zs[i]) (show 0 < s by omega)
          generalize T * zs[i] / s = q at *
          generalize T * zs[i] % s = r at *
          generalize zs[i] = x at *
          have HF := Lib.hid F
          have hi' := hi
          clear F
          go_wp2_with (go_at_call 55; refine (htm _).mono ?_; rintro e w' ⟨rfl, rfl⟩)
          go_round
          case rel =>
            refine ⟨i + 1, lf - q, by go_num, by go_num, by omega, by omega, by omega, by have h1 := hts.out; have h2 := hlf.out; show _ = _; omega, ?_⟩
            exact HF.out.step hlt hLq.out hLr.out hq.out hr.out
          case measure => simp [intOf]; omega
        · obtain rfl : i = k := by omega
          have lq : (qs T s zs).length = i := by simp [qs, HN.out]
          have lr : (rs T s zs).length = i := by simp [rs, HN.out]
          rw [part_full _ _ lq, part_full _ _ lr] at F
          have hl2 : lf = lft T zs := by
            have := hlf.out
            rw [List.take_of_length_le (by omega), HS'.out] at this
            exact this
          have hbd := left_bd T zs (by have := HS'.out; omega)
          rw [← hl2, HN.out] at hbd
          obtain ⟨b0, b1⟩ := hbd
          obtain ⟨j, rfl⟩ := Int.eq_ofNat_of_zero_le b0
          have hj : j < i := by omega
          have HF := Lib.hid F
          have HL := Lib.hid hl2
          have hLq := Lib.hid lq
          have hLr := Lib.hid lr
          have hR0 := Lib.hid (rs_nonneg T s zs (by omega))
          clear F hl2 lq lr hlf
          have hQ := Lib.hid (show ∀ i, i < (qs T s zs).length → 0 ≤ (qs T s zs).getD i 0 ∧ (qs T s zs).getD i 0 ≤ T from by
            intro i hi
            have hi2 : i < zs.length := by rw [HN.out]; rw [hLq.out] at hi; exact hi
            rw [qs_getD T s zs i hi2]
            have := HZ.out zs[i] (List.getElem_mem hi2)
            exact q_bd0 T s zs[i] (by omega) (by omega) this.1 (by rw [HS'.out]; exact mem_le_sum zs (fun x hx => (HZ.out x hx).1) _ (List.getElem_mem hi2)))
          have HP := Lib.hid (show partsOf T zs = bump (qs T s zs) (rs T s zs) j from by rw [parts_bump, ← HS'.out, ← HL.out]; rfl)
          generalize qs T s zs = Q at *
          generalize rs T s zs = r at *
          have hi1 : 0 < i := by omega
          clear hs0 hs1 ts hS
          go_wp2
          go_loopw [9, 11, 12] (fun x _ _ wr => ∃ k : Nat, x = .int .i64 ((j : Int) - k) ∧ k ≤ j ∧ Two w wr (bump Q r k) (pick r k)) (fun x _ _ _ => (intOf x).toNat)
          case atStart => exact ⟨0, by go_num, by omega, by rw [bump_zero, pick_zero]; exact HF.out⟩
          case round =>
            obtain ⟨k, rfl, hk, F⟩ := hrel
            clear HF
            by_cases hlt : k < j
            · have hko : k < (ordOf r).length := by rw [ordOf_length, hLr.out]; omega
              have HF := Lib.hid F
              clear F
              have hpos : (0 : Int) < (j : Int) - k := by omega
              go_wp2
              obtain ⟨wo, rfl⟩ : ∃ wo : World, wo = wr := ⟨_, rfl⟩
              go_loopw [11, 12] (fun x y wi => ∃ p m : Nat, x = .int .i64 p ∧ y = .int .i64 m ∧ 1 ≤ m ∧ m ≤ i ∧ p < m ∧ Hid (Mst (pick r k) m p) ∧ ∃ q, wi = wo.drewN q) (fun _ y _ => i - (intOf y).toNat)
              case atStart => exact ⟨0, 1, rfl, rfl, by omega, by omega, by omega, Mst.one _, 0, rfl⟩
              case round =>
                obtain ⟨p, m, rfl, rfl, hm1, hm2, hpm, hM, q, rfl⟩ := hrel
                by_cases hlt2 : m < i
                · have c1 := HF.out.rests.cell m (rowI_get .i64 (pick r k) m (by rw [pick_length, hLr.out]; exact hlt2))
                  have c2 := HF.out.rests.cell p (rowI_get .i64 (pick r k) p (by rw [pick_length, hLr.out]; omega))
                  have hmm : (m : Int) < i := by omega
                  have hpp : (p : Int) < i := by omega
                  have h1 := fun h => Lib.hid (hM.out.more h)
                  have h2 := fun h => Lib.hid (hM.out.less h)
                  have H1 := Lib.hid h1
                  have H2 := Lib.hid h2
                  clear h1 h2
                  generalize (pick r k).getD m 0 = x at *
                  generalize (pick r k).getD p 0 = y at *
                  by_cases hx : y < x
                  · go_wp2
                    go_region
                    all_goals
                      go_wp2
                      go_roundw
                      case rel => exact ⟨m, m + 1, rfl, by go_num, by omega, by omega, by omega, H1.out hx, drew_more ⟨q, rfl⟩ 1⟩
                      case measure => simp [intOf]; omega
                  · go_wp2
                    go_region
                    all_goals
                      go_wp2
                      go_roundw
                      case rel => exact ⟨p, m + 1, rfl, by go_num, by omega, by omega, by omega, H2.out hx, drew_more ⟨q, rfl⟩ 1⟩
                      case measure => simp [intOf]; omega
                · obtain rfl : m = i := by omega
                  have hp := Mst.pick (b := p) (by rw [hLr.out]; exact hM.out) hR0.out hko
                  have hst := Lib.hid (fun v hv => bump_step Q r k hko (v := v) hv (by rw [hLr.out, hLq.out]))
                  have hst2 := Lib.hid (pick_step r k hko)
                  have ho : (ordOf r)[k] < m := by
                    have := (ordOf_mem r (ordOf r)[k]).1 (List.getElem_mem hko)
                    rw [hLr.out] at this
                    exact this
                  have hv1 : 0 ≤ (bump Q r k).getD (ordOf r)[k] 0 ∧ (bump Q r k).getD (ordOf r)[k] 0 ≤ T := by
                    have := hQ.out (ordOf r)[k] (by rw [hLq.out]; exact ho)
                    rw [bump_get Q r k _ (by rw [hLq.out]; exact ho), inTop_new r k hko]
                    simpa using this
                  have pc := HF.out.parts.cell (ordOf r)[k] (rowI_get .i64 (bump Q r k) _ (by rw [bump_length, hLq.out]; exact ho))
                  have rc := HF.out.rests.cell (ordOf r)[k] (rowI_get .i64 (pick r k) _ (by rw [pick_length, hLr.out]; exact ho))
                  have pf := HF.out.parts.free (ordOf r)[k]
                  have rf := HF.out.rests.free (ordOf r)[k]
                  obtain ⟨v0, v1⟩ := hv1
                  rw [← hp] at pc rc pf rf v0 v1 ho
                  have Hp := Lib.hid hp
                  clear hp
                  generalize hvv : (bump Q r k).getD p 0 = v at *
                  have hvv' := Lib.hid hvv
                  clear hvv
                  have e1 : IntKind.i64.wrap (v + 1) = v + 1 := IntWalk.i64_in _ (by omega)
                  have hpp : (p : Int) < m := by omega
                  go_wp2
                  go_round
                  case rel =>
                    refine ⟨k + 1, by go_num, by omega, ?_⟩
                    rw [← hst.out v (by rw [← Hp.out]; exact hvv'.out), ← hst2.out, ← Hp.out]
                    exact ((HF.out.drewN _).setP _ _).setR _ _
                  case measure => simp [intOf]; omega
            · obtain rfl : k = j := by omega
              go_wp2
              go_ret
              exact ⟨_, _, rfl, Nat.le_refl _, F.below, by rw [HP.out]; exact F.parts⟩

set_option maxHeartbeats 800000 in
theorem c_rsplit_zero (T : Int) (a : Option Addr) (n c : Nat) (zs : List Int) (w : World) (hn : zs.length = n) (hm : n ≤ 4096) (hr : Rd w a (vals .i64 zs)) (hz : ∀ x ∈ zs, 0 ≤ x ∧ x ≤ 1099511627776) (hS : sumL zs = 0) :
    Calls Tryd.prog 35 #[.int .i64 T, .slice a n c] w fun e w' => ∃ b t, e = .returned (.slice (some ⟨b, 0, none⟩) n n) ∧ w.heap.size ≤ b ∧ Below w.heap.size w w' ∧ Blk w' b t (rowI .i64 (List.replicate n 0)) := by
  have hmk := mk38 n hm
  have HR := Lib.hid hr
  have HZ := Lib.hid hz
  have HN := Lib.hid hn
  have HS := Lib.hid hS
  clear hr hn hz hS
  go_enter Tryd.func35, Tryd.ntmps35
  go_wp2
  have F0 : Hid (Two w ((w.alloc (.cells (zer .i64 n) 2)).alloc (.cells (zer .i64 n) 2)) (List.replicate n 0) (List.replicate n 0)) := Lib.hid (Two.new w n)
  generalize (w.alloc (.cells (zer .i64 n) 2)).alloc (.cells (zer .i64 n) 2) = wo at F0 ⊢
  go_loop [7, 8] (fun x y => ∃ (k : Nat) (s : Int), y = .int .i64 k ∧ x = .int .i64 s ∧ k ≤ n ∧ 0 ≤ s ∧ s ≤ 1099511627776 * k ∧ Hid (s = sumL (zs.take k))) (fun _ y => n - (intOf y).toNat)
  case atStart => exact ⟨0, 0, rfl, rfl, by omega, by omega, by omega, by show _ = _; simp [sumL]⟩
  case round =>
    obtain ⟨k, s, rfl, rfl, hk, hs0, hs1, hs⟩ := hrel
    by_cases hlt : k < n
    · have hkz : k < zs.length := by rw [HN.out]; exact hlt
      obtain ⟨b, o, rfl, hb, hall, hc⟩ := (HR.out.below F0.out.below).at k (by simpa using hkz)
      clear hall
      rw [vals_get .i64 zs k hkz] at hc
      have ht := sumL_take_succ' zs k hkz
      obtain ⟨z0, z1⟩ := HZ.out zs[k] (List.getElem_mem hkz)
      generalize zs[k] = x at *
      have HT := Lib.hid ht
      clear ht
      go_wp2
      go_round
      case rel => exact ⟨k + 1, s + x, by go_num, rfl, by omega, by omega, by omega, by have h1 := HT.out; have h2 := hs.out; show _ = _; omega⟩
      case measure => simp [intOf]; omega
    · obtain rfl : k = n := by omega
      have hs' : s = 0 := by
        have := hs.out
        rwa [List.take_of_length_le (by rw [HN.out]; exact Nat.le_refl _), HS.out] at this
      subst hs'
      clear hs
      go_wp2
      go_ret
      exact ⟨_, rfl, Nat.le_refl _, F0.out.below, _, F0.out.parts⟩

theorem c_rsplit (T : Int) (a : Option Addr) (n c : Nat) (zs : List Int) (w : World) (hn : zs.length = n) (hr : Rd w a (vals .i64 zs)) (he : errS T zs = 0) :
    Calls Tryd.prog 35 #[.int .i64 T, .slice a n c] w fun e w' => ∃ b t, e = .returned (.slice (some ⟨b, 0, none⟩) n n) ∧ w.heap.size ≤ b ∧ Below w.heap.size w w' ∧ Blk w' b t (rowI .i64 (partsOf T zs)) := by
  obtain ⟨h1, h2, h3, h4, h5, h6⟩ := errS_zero he
  have h7 := sumL_nonneg zs fun x hx => (h5 x hx).1
  by_cases hS : sumL zs = 0
  · have hT : T = 0 := by
      rcases Int.lt_or_le 0 T with h | h
      · have := sum_pos (fun x hx => (h5 x hx).1) (h6 h); omega
      · omega
    subst hT
    rw [parts_zero zs fun x hx => (h5 x hx).1, hn]
    exact c_rsplit_zero 0 a n c zs w hn (by omega) hr h5 hS
  · exact c_rsplit_main T a n c zs w hn (by omega) hr h1 h2 h5 (by omega)

end Go.Proofs.YtdkabldhkgidjaaDoor
