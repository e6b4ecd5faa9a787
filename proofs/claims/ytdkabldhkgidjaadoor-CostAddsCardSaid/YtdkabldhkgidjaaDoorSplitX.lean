/-
  share.Split: its walk where there is a total.
-/
import Derived.Test.YtdkabldhkgidjaaDoorSplitW
import Derived.Test.YtdkabldhkgidjaaDoorSplitM
namespace Go.Proofs.YtdkabldhkgidjaaDoor
set_option linter.unusedVariables false
set_option linter.unusedSimpArgs false
open Go.RowKit

theorem sumL_take_succ (zs : List Int) (k : Nat) (h : k < zs.length) : sumL (zs.take (k + 1)) = sumL (zs.take k) + zs[k] := by
  rw [List.take_succ_eq_append_getElem h, sumL_append]
  simp [sumL]

set_option maxHeartbeats 1600000 in
theorem c_split_main (T : Int) (a : Option Addr) (n c : Nat) (zs : List Int) (w : World) (hn : zs.length = n) (hm : n ≤ 4096) (hr : Rd w a (vals .i64 zs)) (he : errS T zs = 0) (hT : 0 < T) (hT2 : T ≤ 1099511627776) (hz : ∀ x ∈ zs, 0 ≤ x ∧ x ≤ 1099511627776) (hS : 0 < sumL zs) :
    Calls Tryd.prog 34 #[.int .i64 T, .slice a n c] w fun e w' => ∃ b t, e = .returned (.tuple #[.slice (some ⟨b, 0, none⟩) n n, .int .i64 0]) ∧ w.heap.size ≤ b ∧ Below w.heap.size w w' ∧ Blk w' b t (rowI .i64 (partsOf T zs)) := by
  have h := c_wrong T a n c zs w hn (by omega) hr
  rw [he] at h
  have hmk := mk38 n hm
  have hmk2 := mk72 n hm
  have hmk3 := mk73 n hm
  have HR := Lib.hid hr
  have HZ := Lib.hid hz
  have HN := Lib.hid hn
  have HS := Lib.hid hS
  have t1 : (T == 0) = false := by simp; omega
  have t2 : (T != 0) = true := by simp; omega
  clear he hr hn hz hS
  go_enter Tryd.func34, Tryd.ntmps34
  go_wp2_with (go_at_call 47; refine h.mono ?_; rintro e w' ⟨rfl, rfl⟩)
  go_loop [36, 8] (fun y x => ∃ (k : Nat) (s : Int), y = .int .i64 k ∧ x = .int .u64 s ∧ k ≤ n ∧ 0 ≤ s ∧ s ≤ 1099511627776 * k ∧ Hid (s = sumL (zs.take k))) (fun y _ => n - (intOf y).toNat)
  case atStart => exact ⟨0, 0, rfl, rfl, by omega, by omega, by omega, by show _ = _; simp [sumL]⟩
  case round =>
    obtain ⟨k, s, rfl, rfl, hk, hs0, hs1, hs⟩ := hrel
    by_cases hlt : k < n
    · have hkz : k < zs.length := by rw [HN.out]; exact hlt
      obtain ⟨b, o, rfl, hb, hall, hc⟩ := HR.out.at k (by simpa using hkz)
      clear hall
      rw [vals_get .i64 zs k hkz] at hc
      have ht := sumL_take_succ zs k hkz
      obtain ⟨z0, z1⟩ := HZ.out zs[k] (List.getElem_mem hkz)
      generalize zs[k] = x at *
      have HT := Lib.hid ht
      clear ht
      have e1 : IntKind.u64.wrap x = x := IntWalk.u64_in _ (by omega)
      have e2 : IntKind.u64.wrap (s + x) = s + x := IntWalk.u64_in _ (by omega)
      go_wp2
      go_round
      case rel => exact ⟨k + 1, s + x, by go_num, by go_num, by omega, by omega, by omega, by have h1 := HT.out; have h2 := hs.out; show _ = _; omega⟩
      case measure => simp [intOf]; omega
    · obtain rfl : k = n := by omega
      have hs' : s = sumL zs := by
        have := hs.out
        rwa [List.take_of_length_le (by rw [HN.out]; exact Nat.le_refl _)] at this
      have hS := HS.out
      rw [← hs'] at hS
      have HS' := Lib.hid hs'
      clear hs' hs HS
      go_wp2
      have F0 := Four.new w k
      go_loopw [54, 13] (fun y x wr => ∃ (i : Nat) (lf : Int), y = .int .i64 i ∧ x = .int .i64 lf ∧ i ≤ k ∧ T - 1099511627776 * i ≤ lf ∧ lf ≤ T ∧ Hid (lf = T - sumL ((qs T s zs).take i)) ∧ Four w wr k (part (qs T s zs) k i) (part (rs T s zs) k i) (part (iota k) k i)) (fun y _ _ => k - (intOf y).toNat)
      case atStart =>
        refine ⟨0, T, rfl, rfl, by omega, by omega, by omega, by show _ = _; simp [sumL], ?_⟩
        rw [part_zero, part_zero, part_zero]
        exact F0
      case round =>
        obtain ⟨i, lf, rfl, rfl, hi, hl0, hl1, hlf, F⟩ := hrel
        by_cases hlt : i < k
        · have hkz : i < zs.length := by rw [HN.out]; exact hlt
          obtain ⟨b, o, rfl, hb, hall, hc⟩ := (HR.out.below F.below).at i (by simpa using hkz)
          clear hall
          rw [vals_get .i64 zs i hkz] at hc
          obtain ⟨z0, z1⟩ := HZ.out zs[i] (List.getElem_mem hkz)
          have zS : zs[i] ≤ s := by rw [HS'.out]; exact mem_le_sum zs (fun x hx => (HZ.out x hx).1) _ (List.getElem_mem hkz)
          have hq := Lib.hid (qs_getD T s zs i hkz)
          have hr := Lib.hid (rs_getD T s zs i hkz)
          have hts := Lib.hid (qs_take_succ T s zs i hkz)
          have lq : (qs T s zs).length = k := by simp [qs, HN.out]
          have lr : (rs T s zs).length = k := by simp [rs, HN.out]
          have hLq := Lib.hid lq
          have hLr := Lib.hid lr
          have pc := F.parts.cell i (rowI_get .i64 _ i (by rw [part_length _ _ _ lq hi]; exact hlt))
          have rc := F.rests.cell i (rowI_get .u64 _ i (by rw [part_length _ _ _ lr hi]; exact hlt))
          have lc : wr.cell? ⟨w.heap.size + 1 + 1 + 1, i, none⟩ = some (.int .i64 ((part (iota k) k i).getD i 0)) := F.places.cell i (rowI_get .i64 _ i (by rw [part_length _ _ _ (iota_length k) hi]; exact hlt))
          have bc : wr.cell? ⟨w.heap.size + 1 + 1, 0, none⟩ = some (.slice (some ⟨w.heap.size + 1, 0, none⟩) k k) := F.box.cell 0 rfl
          have pf := F.parts.free i
          have rf := F.rests.free i
          have lfr : wr.frozen? ⟨w.heap.size + 1 + 1 + 1, i, none⟩ = false := F.places.free i
          clear lq lr
          obtain ⟨q0, q1⟩ := q_bd T s zs[i] (by omega) (by omega) z0 zS
          obtain ⟨h0, h1, h2, h3, h4⟩ := hi_bd T s zs[i] (by omega) hT2 (by omega) z0 zS
          have hmul := fun w => c_mul64 T zs[i] w (by omega) (by omega) z0 (by omega)
          have hdiv := fun w => c_div64 (T * zs[i] / 18446744073709551616) (T * zs[i] % 18446744073709551616) s w h0 h1 (by omega) h2 h3
          rw [h4] at hdiv
          have r0 := Int.emod_nonneg (T * zs[i]) (show s ≠ 0 by omega)
          have r1 := Int.emod_lt_of_pos (T * zs[i]) (show 0 < s by omega)
          generalize T * zs[i] / s = q at *
          generalize T * zs[i] % s = r at *
          generalize T * zs[i] / 18446744073709551616 = hi6 at *
          generalize T * zs[i] % 18446744073709551616 = lo6 at *
          generalize zs[i] = x at *
          have HF := Lib.hid F
          have hi' := hi
          clear F h4
          have e1 : IntKind.u64.wrap x = x := IntWalk.u64_in _ (by omega)
          have e2 : IntKind.u64.wrap T = T := IntWalk.u64_in _ (by omega)
          have e3 : IntKind.i64.wrap q = q := IntWalk.i64_in _ (by omega)
          have e4 : IntKind.i64.wrap (lf - q) = lf - q := IntWalk.i64_in _ (by omega)
          go_wp2_with (first | (go_at_call 48; refine (hmul _).mono ?_; rintro e w' ⟨rfl, rfl⟩) | (go_at_call 49; refine (hdiv _).mono ?_; rintro e w' ⟨rfl, m, rfl⟩))
          go_region
          all_goals
            go_wp2
            go_round
            case rel =>
              refine ⟨i + 1, lf - q, by go_num, by go_num, by omega, by omega, by omega, by have h1 := hts.out; have h2 := hlf.out; show _ = _; omega, ?_⟩
              exact (HF.out.drewN _).step hlt hLq.out hLr.out (iota_length k) hq.out hr.out (iota_get k i hlt)
            case measure => simp [intOf]; omega
        · obtain rfl : i = k := by omega
          have lq : (qs T s zs).length = i := by simp [qs, HN.out]
          have lr : (rs T s zs).length = i := by simp [rs, HN.out]
          rw [part_full _ _ lq, part_full _ _ lr, part_full _ _ (iota_length i)] at F
          have hl2 : lf = lft T zs := by
            have := hlf.out
            rw [List.take_of_length_le (by omega), HS'.out] at this
            exact this
          have hbd := left_bd T zs (by have := HS'.out; omega)
          rw [← hl2, HN.out] at hbd
          obtain ⟨b0, b1⟩ := hbd
          obtain ⟨j, rfl⟩ := Int.eq_ofNat_of_zero_le b0
          have hj : j < i := by omega
          obtain ⟨m, rfl⟩ : ∃ m, i = m + 1 := ⟨i - 1, by omega⟩
          have hsort := c_sort m (by omega) (rs T s zs) lr wr (w.heap.size + 1 + 1) (w.heap.size + 1) (w.heap.size + 1 + 1 + 1) 82 81 3 F.box F.rests (by rw [rowN_iota]; exact F.places) (by omega) (by omega)
          have HF := Lib.hid F
          have HL := Lib.hid hl2
          have hLq := Lib.hid lq
          have hLr := Lib.hid lr
          clear F hl2 lq lr hlf
          go_wp2_with (go_at_call 50; refine hsort.mono ?_; rintro e w2 ⟨rfl, hb, hL, hfar⟩; have HF2 := Lib.hid (Four.sorted HF.out hb hL hfar); clear hb hL hfar)
          have hQ := Lib.hid (show ∀ i, i < (qs T s zs).length → 0 ≤ (qs T s zs).getD i 0 ∧ (qs T s zs).getD i 0 ≤ T from by
            intro i hi
            have hi2 : i < zs.length := by rw [HN.out]; rw [hLq.out] at hi; exact hi
            rw [qs_getD T s zs i hi2]
            have := HZ.out zs[i] (List.getElem_mem hi2)
            exact q_bd T s zs[i] (by omega) (by omega) this.1 (by rw [HS'.out]; exact mem_le_sum zs (fun x hx => (HZ.out x hx).1) _ (List.getElem_mem hi2)))
          have HP := Lib.hid (show partsOf T zs = bump (qs T s zs) (rs T s zs) j from by rw [parts_bump, ← HS'.out, ← HL.out]; rfl)
          clear hsort
          generalize qs T s zs = Q at *
          generalize rs T s zs = r at *
          go_loopw [101] (fun y wr => ∃ k : Nat, y = .int .i64 k ∧ k ≤ j ∧ Four w wr (m + 1) (bump Q r k) r (intsN (ordOf r))) (fun y _ => j - (intOf y).toNat)
          case atStart => exact ⟨0, rfl, by omega, by rw [bump_zero]; exact HF2.out⟩
          case round =>
            obtain ⟨k, rfl, hk, F⟩ := hrel
            by_cases hlt : k < j
            · have hko : k < (ordOf r).length := by rw [ordOf_length, hLr.out]; omega
              have ho : (ordOf r)[k] < m + 1 := by
                have := (ordOf_mem r (ordOf r)[k]).1 (List.getElem_mem hko)
                rw [hLr.out] at this
                exact this
              have hst := Lib.hid (fun v hv => bump_step Q r k hko (v := v) hv (by rw [hLr.out, hLq.out]))
              have hv1 : 0 ≤ (bump Q r k).getD (ordOf r)[k] 0 ∧ (bump Q r k).getD (ordOf r)[k] 0 ≤ T := by
                have := hQ.out (ordOf r)[k] (by rw [hLq.out]; exact ho)
                rw [bump_get Q r k _ (by rw [hLq.out]; exact ho), inTop_new r k hko]
                simpa using this
              have lc : wr.cell? ⟨w.heap.size + 1 + 1 + 1, k, none⟩ = some (.int .i64 ((ordOf r)[k] : Nat)) := by
                have := F.places.cell k (rowI_get .i64 (intsN (ordOf r)) k (by simpa using hko))
                simpa [intsN, hko] using this
              have pc := F.parts.cell (ordOf r)[k] (rowI_get .i64 (bump Q r k) _ (by rw [bump_length, hLq.out]; exact ho))
              have pf := F.parts.free (ordOf r)[k]
              have HF3 := Lib.hid F
              clear F
              obtain ⟨v0, v1⟩ := hv1
              have hve := Lib.hid (rfl : (bump Q r k).getD (ordOf r)[k] 0 = (bump Q r k).getD (ordOf r)[k] 0)
              generalize (ordOf r)[k] = o at *
              generalize hvv : (bump Q r k).getD o 0 = v at *
              have hvv' := Lib.hid hvv
              clear hvv hve
              have e1 : IntKind.i64.wrap (v + 1) = v + 1 := IntWalk.i64_in _ (by omega)
              go_wp2
              go_round
              case rel =>
                refine ⟨k + 1, by go_num, by omega, ?_⟩
                rw [← hst.out v rfl]
                exact HF3.out.setP _ _
              case measure => simp [intOf]; omega
            · obtain rfl : k = j := by omega
              go_wp2
              exact bodyPost_ret (v := .tuple #[.slice (some ⟨w.heap.size, 0, none⟩) (m + 1) (m + 1), .int .i64 0]) (by simp [results, Tryd.results34, go_sem]) rfl ⟨_, _, rfl, Nat.le_refl _, F.below, by rw [HP.out]; exact F.parts⟩

end Go.Proofs.YtdkabldhkgidjaaDoor
