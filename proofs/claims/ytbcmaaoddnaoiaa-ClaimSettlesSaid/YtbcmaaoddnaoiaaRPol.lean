/-
  The references' Name (layer 6), In (layer 14), May (layer 42): their walks.
-/
import Derived.Test.YtbcmaaoddnaoiaaPolPays
namespace Go.Proofs.Ytbcmaaoddnaoiaa
set_option linter.unusedVariables false
set_option linter.unusedSimpArgs false
open Go.RowKit

set_option maxRecDepth 100000 in
set_option maxHeartbeats 1600000 in
theorem c_rname6 (s : ByteArray) (w : World) (hs : s.size ≤ 9223372036854775807) : Calls Try.prog 75 #[.string s] w fun e w' => e = .returned (.bool (nameB s)) ∧ w = w' := by
  go_enter Try.func75, Try.ntmps75
  go_wp2
  go_loop [3] (fun i => ∃ k : Nat, i = .int .i64 k ∧ k ≤ s.size ∧ Hid (okS (s.data.toList.take k) = true)) (fun i => s.size - (intOf i).toNat)
  case atStart => exact ⟨0, rfl, by omega, by show _ = _; simp [okS]⟩
  case round =>
    obtain ⟨k, rfl, hk, hf⟩ := hrel
    by_cases hlt : k < s.size
    · have hsn := okS_snoc (s.data.toList.take k) s[k]
      have hts := take_snoc s k hlt
      rw [← hts, hf.out, Bool.true_and] at hsn
      have HS := Lib.hid hsn
      clear hsn hts
      have hbad : okI (s[k].toNat : Int) = false → nameB s = false := by
        intro h
        have h1 := HS.out
        unfold nameB
        have : okS s.data.toList = false := by
          unfold okS at h1 ⊢
          rw [← List.take_append_drop (k + 1) s.data.toList, List.all_append, h1, h]
          rfl
        rw [this]; simp
      have HBad := Lib.hid hbad
      clear hbad
      have hx0 : 0 ≤ (s[k].toNat : Int) := by omega
      have hx1 : (s[k].toNat : Int) < 256 := by have := s[k].toNat_lt; omega
      by_cases hok : (97 ≤ (s[k].toNat : Int) ∧ (s[k].toNat : Int) ≤ 122) ∨ (48 ≤ (s[k].toNat : Int) ∧ (s[k].toNat : Int) ≤ 57) ∨ (s[k].toNat : Int) = 45
      · have c : okI (s[k].toNat : Int) = true := by unfold okI; exact decide_eq_true hok
        rw [c] at HS
        clear c
        rcases hok with ⟨a, b⟩ | ⟨a, b⟩ | h45
        · go_wp2
          go_round
          case rel => exact ⟨k + 1, by go_num, by omega, HS.out⟩
          case measure => simp [intOf]; omega
        · go_wp2
          go_round
          case rel => exact ⟨k + 1, by go_num, by omega, HS.out⟩
          case measure => simp [intOf]; omega
        · have t3 : ((s[k].toNat : Int) == 45) = true := by simp; omega
          have u1 : ¬ 97 ≤ (s[k].toNat : Int) := by omega
          have u2 : ¬ 48 ≤ (s[k].toNat : Int) := by omega
          clear h45
          go_wp2
          go_round
          case rel => exact ⟨k + 1, by go_num, by omega, HS.out⟩
          case measure => simp [intOf]; omega
      · have c : okI (s[k].toNat : Int) = false := by unfold okI; exact decide_eq_false hok
        have HN := Lib.hid (HBad.out c)
        have t3 : ((s[k].toNat : Int) == 45) = false := by simp; omega
        by_cases h1 : 97 ≤ (s[k].toNat : Int)
        · have h2 : ¬ (s[k].toNat : Int) ≤ 122 := by omega
          have h3 : 48 ≤ (s[k].toNat : Int) := by omega
          have h4 : ¬ (s[k].toNat : Int) ≤ 57 := by omega
          clear hok c
          go_wp2
          go_ret
          exact ⟨ret_b HN.out.symm, rfl⟩
        · by_cases h3 : 48 ≤ (s[k].toNat : Int)
          · have h4 : ¬ (s[k].toNat : Int) ≤ 57 := by omega
            clear hok c
            go_wp2
            go_ret
            exact ⟨ret_b HN.out.symm, rfl⟩
          · clear hok c
            go_wp2
            go_ret
            exact ⟨ret_b HN.out.symm, rfl⟩
    · obtain rfl : k = s.size := by omega
      have h1 := hf.out
      rw [List.take_of_length_le (by simp)] at h1
      have hn : nameB s = decide (1 ≤ s.size ∧ s.size ≤ 16) := by unfold nameB; rw [h1]; simp
      have HN := Lib.hid hn
      clear h1 hf hn
      go_wp2
      all_goals
        go_ret
        exact ⟨ret_b (HN.out.trans (Bool.eq_iff_iff.2 (by simp; try omega))).symm, rfl⟩
set_option maxHeartbeats 400000 in
theorem c_rin (n lo hi : Int) (w : World) : Calls Try.prog 76 #[.int .i64 n, .int .i64 lo, .int .i64 hi] w fun e w' => e = .returned (.bool (wB n lo hi)) ∧ w = w' := by
  unfold wB
  by_cases h1 : lo ≤ n
  · by_cases h2 : n ≤ hi
    · go_enter Try.func76, Try.ntmps76
      go_wp2
      go_ret
      exact ⟨ret_b (Bool.eq_iff_iff.2 (by simp; omega)), rfl⟩
    · go_enter Try.func76, Try.ntmps76
      go_wp2
      go_ret
      exact ⟨ret_b (Bool.eq_iff_iff.2 (by simp; omega)), rfl⟩
  · go_enter Try.func76, Try.ntmps76
    go_wp2
    go_ret
    exact ⟨ret_b (Bool.eq_iff_iff.2 (by simp; omega)), rfl⟩

theorem mayP_bad {i f t : ByteArray} {sum own : Int} {z : List Int} {first last share : Int} (h : ¬ ((nameB i = true ∧ nameB f = true ∧ nameB t = true ∧ z.length ≤ 64 ∧ causesB z = true) ∧ (1 ≤ sum ∧ sum ≤ 1099511627776) ∧ (0 ≤ own ∧ own ≤ sum) ∧ (1 ≤ share ∧ share ≤ 1000) ∧ (0 ≤ first ∧ first ≤ 1048576) ∧ (0 ≤ last ∧ last ≤ 1048576) ∧ first ≤ last)) : mayP i f t sum own z first last share = false := by
  cases hx : mayP i f t sum own z first last share
  · rfl
  · exact absurd (mayP_facts hx) h
theorem mayP_good {i f t : ByteArray} {sum own : Int} {z : List Int} {first last share : Int} (h : (nameB i = true ∧ nameB f = true ∧ nameB t = true ∧ z.length ≤ 64 ∧ causesB z = true) ∧ (1 ≤ sum ∧ sum ≤ 1099511627776) ∧ (0 ≤ own ∧ own ≤ sum) ∧ (1 ≤ share ∧ share ≤ 1000) ∧ (0 ≤ first ∧ first ≤ 1048576) ∧ (0 ≤ last ∧ last ≤ 1048576) ∧ first ≤ last) : mayP i f t sum own z first last share = true := by
  obtain ⟨⟨h1, h2, h3, h4, h5⟩, h6, h7, h8, h9, h10, h11⟩ := h
  unfold mayP wB
  rw [h1, h2, h3, h5]
  simp only [decide_eq_true h4, decide_eq_true h6, decide_eq_true h7, decide_eq_true h8, decide_eq_true h9, decide_eq_true h10, decide_eq_true h11, Bool.and_self]
theorem wB_of {n lo hi : Int} (h : lo ≤ n ∧ n ≤ hi) : wB n lo hi = true := decide_eq_true h
theorem wB_off {n lo hi : Int} (h : ¬ (lo ≤ n ∧ n ≤ hi)) : wB n lo hi = false := decide_eq_false h

set_option maxRecDepth 100000 in
set_option maxHeartbeats 6400000 in
theorem c_rpmay (i f t : ByteArray) (sum own : Int) (ca : Option Addr) (cn cc : Nat) (z : List Int) (first last share : Int) (w : World) (hi : i.size ≤ 9223372036854775807) (hf : f.size ≤ 9223372036854775807) (ht : t.size ≤ 9223372036854775807) (hz : z.length = cn) (hc : Rd w ca (vals .i64 z)) (hcn : cn ≤ 9223372036854775807) :
    Calls Try.prog 40 #[polV i f t sum own ca cn cc first last share] w fun e w' => e = .returned (.bool (mayP i f t sum own z first last share)) ∧ Below w.heap.size w w' := by
  have HN := Lib.hid (fun s w hs => c_rname6 s w hs)
  have HW := Lib.hid (fun n lo hi w => c_rin n lo hi w)
  have HZ := Lib.hid hz
  have HC := Lib.hid hc
  obtain ⟨M, hM⟩ : ∃ M, M = mayP i f t sum own z first last share := ⟨_, rfl⟩
  rw [← hM]
  have HBad := Lib.hid (fun h => hM.trans (mayP_bad (i := i) (f := f) (t := t) (sum := sum) (own := own) (z := z) (first := first) (last := last) (share := share) h))
  have HGood := Lib.hid (fun h => hM.trans (mayP_good (i := i) (f := f) (t := t) (sum := sum) (own := own) (z := z) (first := first) (last := last) (share := share) h))
  clear hM hz hc
  unfold polV
  cases n0 : nameB i
  · skip
    have HMb := Lib.hid (show M = false from HBad.out (by rintro ⟨⟨h1, h2, h3, _⟩, _⟩; first | (rw [n0] at h1; cases h1; done) | (rw [n0] at h2; cases h2; done) | (rw [n0] at h3; cases h3; done)))
    clear HBad HGood
    go_enter Try.func40, Try.ntmps40
    go_wp2_with (first | (go_at_call 75; (with_reducible refine (HN.out _ _ (by assumption)).mono ?_); rintro e w' ⟨rfl, rfl⟩) | (go_at_call 76; (with_reducible refine (HW.out _ _ _ _).mono ?_); rintro e w' ⟨rfl, rfl⟩))
    go_ret
    exact ⟨ret_b HMb.out.symm, (Below.refl _ _).alloc (Nat.le_refl _) _⟩
  · skip
    cases n1 : nameB f
    · skip
      have HMb := Lib.hid (show M = false from HBad.out (by rintro ⟨⟨h1, h2, h3, _⟩, _⟩; first | (rw [n1] at h1; cases h1; done) | (rw [n1] at h2; cases h2; done) | (rw [n1] at h3; cases h3; done)))
      clear HBad HGood
      go_enter Try.func40, Try.ntmps40
      go_wp2_with (first | (go_at_call 75; (with_reducible refine (HN.out _ _ (by assumption)).mono ?_); rintro e w' ⟨rfl, rfl⟩) | (go_at_call 76; (with_reducible refine (HW.out _ _ _ _).mono ?_); rintro e w' ⟨rfl, rfl⟩))
      go_ret
      exact ⟨ret_b HMb.out.symm, (Below.refl _ _).alloc (Nat.le_refl _) _⟩
    · skip
      cases n2 : nameB t
      · skip
        have HMb := Lib.hid (show M = false from HBad.out (by rintro ⟨⟨h1, h2, h3, _⟩, _⟩; first | (rw [n2] at h1; cases h1; done) | (rw [n2] at h2; cases h2; done) | (rw [n2] at h3; cases h3; done)))
        clear HBad HGood
        go_enter Try.func40, Try.ntmps40
        go_wp2_with (first | (go_at_call 75; (with_reducible refine (HN.out _ _ (by assumption)).mono ?_); rintro e w' ⟨rfl, rfl⟩) | (go_at_call 76; (with_reducible refine (HW.out _ _ _ _).mono ?_); rintro e w' ⟨rfl, rfl⟩))
        go_ret
        exact ⟨ret_b HMb.out.symm, (Below.refl _ _).alloc (Nat.le_refl _) _⟩
      · skip
        by_cases s0 : 1 ≤ sum
        · skip
          by_cases s1 : sum ≤ 1099511627776
          · skip
            by_cases s2 : 0 ≤ own
            · skip
              by_cases s3 : own ≤ sum
              · skip
                by_cases r0 : 1 ≤ share ∧ share ≤ 1000
                · have t0 := wB_of r0
                  by_cases r1 : 0 ≤ first ∧ first ≤ 1048576
                  · have t1 := wB_of r1
                    by_cases r2 : first ≤ last ∧ last ≤ 1048576
                    · have t2 := wB_of r2
                      by_cases l0 : cn ≤ 64
                      · skip
                        go_enter Try.func40, Try.ntmps40
                        go_wp2_with (first | (go_at_call 75; (with_reducible refine (HN.out _ _ (by assumption)).mono ?_); rintro e w' ⟨rfl, rfl⟩) | (go_at_call 76; (with_reducible refine (HW.out _ _ _ _).mono ?_); rintro e w' ⟨rfl, rfl⟩))
                        have HCa := Lib.hid (HC.out.alloc (.cells #[.string i, .string f, .string t, .int .i64 sum, .int .i64 own, .slice ca cn cc, .int .i64 first, .int .i64 last, .int .i64 share] 57))
                        have hB1 := (Below.refl w.heap.size w).alloc (Nat.le_refl _) (.cells #[.string i, .string f, .string t, .int .i64 sum, .int .i64 own, .slice ca cn cc, .int .i64 first, .int .i64 last, .int .i64 share] 57)
                        have k5 : (w.alloc (.cells #[.string i, .string f, .string t, .int .i64 sum, .int .i64 own, .slice ca cn cc, .int .i64 first, .int .i64 last, .int .i64 share] 57)).cell? ⟨w.heap.size, 5, none⟩ = some (.slice ca cn cc) := World.cell?_alloc_new _ _ _ _
                        have HB1 := Lib.hid hB1
                        have N0 := Lib.hid n0
                        have N1 := Lib.hid n1
                        have N2 := Lib.hid n2
                        clear hB1 n0 n1 n2 t0 t1 t2
                        generalize w.alloc (.cells #[.string i, .string f, .string t, .int .i64 sum, .int .i64 own, .slice ca cn cc, .int .i64 first, .int .i64 last, .int .i64 share] 57) = wa at *
                        generalize hbq : w.heap.size = bq at *
                        have HBq := Lib.hid hbq
                        clear hbq
                        go_loopw [3] (fun x wr => ∃ k : Nat, x = .int .i64 k ∧ k ≤ cn ∧ Hid (∀ j, j < k → (0 ≤ z.getD j 0 ∧ z.getD j 0 ≤ 1048576) ∧ (0 < j → z.getD (j - 1) 0 < z.getD j 0)) ∧ ∃ q, wr = wa.drewN q) (fun x _ => cn - (intOf x).toNat)
                        case atStart => exact ⟨0, rfl, by omega, (by intro j hj; omega), 0, rfl⟩
                        case round =>
                          obtain ⟨k, rfl, hk, hA, q, rfl⟩ := hrel
                          by_cases hlt : k < cn
                          · have hkz : k < z.length := by rw [HZ.out]; exact hlt
                            obtain ⟨b, o, rfl, hb, hall, hcx⟩ := HCa.out.at k (by simpa using hkz)
                            rw [vals_get .i64 z k hkz] at hcx
                            have hget : z.getD k 0 = z[k] := by rw [List.getD_eq_getElem?_getD, List.getElem?_eq_getElem hkz]; rfl
                            have HCb := Lib.hid (fun h => causes_bad hkz h)
                            by_cases hw : 0 ≤ z[k] ∧ z[k] ≤ 1048576
                            · have tw := wB_of hw
                              rcases Nat.eq_zero_or_pos k with hk0 | hk0
                              · subst hk0
                                have HA' := Lib.hid (show ∀ j, j < 0 + 1 → (0 ≤ z.getD j 0 ∧ z.getD j 0 ≤ 1048576) ∧ (0 < j → z.getD (j - 1) 0 < z.getD j 0) from fun j hj => by
                                  obtain rfl : j = 0 := by omega
                                  rw [hget]
                                  exact ⟨hw, fun h => by omega⟩)
                                clear hall hget HCb
                                generalize z[0] = x at *
                                rw [Nat.add_zero] at hcx
                                go_wp2
                                go_quiet ((go_at_call 76; first | exact quiet_left0 (HW.out _ _ _ _) | exact quiet_left1 (HW.out _ _ _ _)))
                                go_wp2
                                go_roundw
                                case rel => exact ⟨0 + 1, by go_num, by omega, HA'.out, _, rfl⟩
                                case measure => simp [intOf]; omega
                              · obtain ⟨p, rfl⟩ : ∃ p, k = p + 1 := ⟨k - 1, by omega⟩
                                have hpz : p < z.length := by omega
                                have hcy := hall p (.int .i64 z[p]) (by simp [vals, hpz])
                                have hgetp : z.getD p 0 = z[p] := by rw [List.getD_eq_getElem?_getD, List.getElem?_eq_getElem hpz]; rfl
                                have hpc : p < cn := by omega
                                have hpi : (p : Int) < cn := by omega
                                have hpk : ((p + 1 : Nat) : Int) < cn := by omega
                                have ew : IntKind.i64.wrap (((p + 1 : Nat) : Int) - 1) = (p : Int) := by
                                  have e3 : ((p + 1 : Nat) : Int) - 1 = (p : Int) := by omega
                                  rw [e3]; exact IntWalk.i64_in _ (by omega)
                                have ew2 : IntKind.i64.wrap ((p : Int) + 1 - 1) = (p : Int) := by
                                  have e3 : (p : Int) + 1 - 1 = (p : Int) := by omega
                                  rw [e3]; exact IntWalk.i64_in _ (by omega)
                                have hp0 : decide ((0 : Int) < ((p + 1 : Nat) : Int)) = true := by first | (simp; done) | (simp; omega)
                                by_cases hyx : z[p] < z[p + 1]
                                · have HA' := Lib.hid (show ∀ j, j < p + 1 + 1 → (0 ≤ z.getD j 0 ∧ z.getD j 0 ≤ 1048576) ∧ (0 < j → z.getD (j - 1) 0 < z.getD j 0) from fun j hj => by
                                    rcases Nat.lt_or_ge j (p + 1) with h | h
                                    · exact hA.out j h
                                    · obtain rfl : j = p + 1 := by omega
                                      rw [hget, show p + 1 - 1 = p by omega, hgetp]
                                      exact ⟨hw, fun _ => hyx⟩)
                                  clear hall hget hgetp HCb
                                  generalize z[p + 1] = x at *
                                  generalize z[p] = y at *
                                  have t1 : decide (x ≤ y) = false := by simp; omega
                                  go_wp2
                                  go_quiet ((go_at_call 76; first | exact quiet_left0 (HW.out _ _ _ _) | exact quiet_left1 (HW.out _ _ _ _)))
                                  go_wp2
                                  go_roundw
                                  case rel => exact ⟨p + 1 + 1, by go_num, by omega, HA'.out, _, rfl⟩
                                  case measure => simp [intOf]; omega
                                · have HMb := Lib.hid (show M = false from HBad.out (by
                                    rintro ⟨⟨_, _, _, _, hcb⟩, _⟩
                                    rw [HCb.out (by rw [hget, show p + 1 - 1 = p by omega, hgetp]; intro h2; exact hyx (h2.2 (by omega)))] at hcb
                                    cases hcb))
                                  clear hall hget hgetp HCb HBad HGood
                                  generalize z[p + 1] = x at *
                                  generalize z[p] = y at *
                                  have t1 : decide (x ≤ y) = true := by simp; omega
                                  go_wp2
                                  go_quiet ((go_at_call 76; first | exact quiet_left0 (HW.out _ _ _ _) | exact quiet_left1 (HW.out _ _ _ _)))
                                  go_wp2
                                  go_ret
                                  exact ⟨ret_b HMb.out.symm, by rw [HBq.out]; exact below_drewN (below_drewN HB1.out _) _⟩
                            · have tw := wB_off hw
                              have HMb := Lib.hid (show M = false from HBad.out (by
                                rintro ⟨⟨_, _, _, _, hcb⟩, _⟩
                                rw [HCb.out (by rw [hget]; intro h2; exact hw h2.1)] at hcb
                                cases hcb))
                              clear hall hget HCb HBad HGood hw
                              generalize z[k] = x at *
                              go_wp2
                              go_quiet ((go_at_call 76; first | exact quiet_left0 (HW.out _ _ _ _) | exact quiet_left1 (HW.out _ _ _ _)))
                              go_wp2
                              go_ret
                              exact ⟨ret_b HMb.out.symm, by rw [HBq.out]; exact below_drewN (below_drewN HB1.out _) _⟩
                          · obtain rfl : k = cn := by omega
                            have HMg := Lib.hid (show M = true from HGood.out ⟨⟨N0.out, N1.out, N2.out, by rw [HZ.out]; exact l0, by unfold causesB; simp only [decide_eq_true_eq]; rw [HZ.out]; exact hA.out⟩, by omega, by omega, by omega, by omega, by omega, by omega⟩)
                            go_wp2
                            go_ret
                            exact ⟨ret_b HMg.out.symm, by rw [HBq.out]; exact below_drewN HB1.out _⟩
                      · skip
                        have HMb := Lib.hid (show M = false from HBad.out (by rintro ⟨⟨_, _, _, h4, _⟩, h5⟩; rw [HZ.out] at h4; omega))
                        clear HBad HGood
                        go_enter Try.func40, Try.ntmps40
                        go_wp2_with (first | (go_at_call 75; (with_reducible refine (HN.out _ _ (by assumption)).mono ?_); rintro e w' ⟨rfl, rfl⟩) | (go_at_call 76; (with_reducible refine (HW.out _ _ _ _).mono ?_); rintro e w' ⟨rfl, rfl⟩))
                        go_ret
                        exact ⟨ret_b HMb.out.symm, (Below.refl _ _).alloc (Nat.le_refl _) _⟩
                    · have t2 := wB_off r2
                      have HMb := Lib.hid (show M = false from HBad.out (by rintro ⟨⟨_, _, _, h4, _⟩, h5⟩; omega))
                      clear HBad HGood
                      go_enter Try.func40, Try.ntmps40
                      go_wp2_with (first | (go_at_call 75; (with_reducible refine (HN.out _ _ (by assumption)).mono ?_); rintro e w' ⟨rfl, rfl⟩) | (go_at_call 76; (with_reducible refine (HW.out _ _ _ _).mono ?_); rintro e w' ⟨rfl, rfl⟩))
                      go_ret
                      exact ⟨ret_b HMb.out.symm, (Below.refl _ _).alloc (Nat.le_refl _) _⟩
                  · have t1 := wB_off r1
                    have HMb := Lib.hid (show M = false from HBad.out (by rintro ⟨⟨_, _, _, h4, _⟩, h5⟩; omega))
                    clear HBad HGood
                    go_enter Try.func40, Try.ntmps40
                    go_wp2_with (first | (go_at_call 75; (with_reducible refine (HN.out _ _ (by assumption)).mono ?_); rintro e w' ⟨rfl, rfl⟩) | (go_at_call 76; (with_reducible refine (HW.out _ _ _ _).mono ?_); rintro e w' ⟨rfl, rfl⟩))
                    go_ret
                    exact ⟨ret_b HMb.out.symm, (Below.refl _ _).alloc (Nat.le_refl _) _⟩
                · have t0 := wB_off r0
                  have HMb := Lib.hid (show M = false from HBad.out (by rintro ⟨⟨_, _, _, h4, _⟩, h5⟩; omega))
                  clear HBad HGood
                  go_enter Try.func40, Try.ntmps40
                  go_wp2_with (first | (go_at_call 75; (with_reducible refine (HN.out _ _ (by assumption)).mono ?_); rintro e w' ⟨rfl, rfl⟩) | (go_at_call 76; (with_reducible refine (HW.out _ _ _ _).mono ?_); rintro e w' ⟨rfl, rfl⟩))
                  go_ret
                  exact ⟨ret_b HMb.out.symm, (Below.refl _ _).alloc (Nat.le_refl _) _⟩
              · skip
                have HMb := Lib.hid (show M = false from HBad.out (by rintro ⟨⟨_, _, _, h4, _⟩, h5⟩; omega))
                clear HBad HGood
                go_enter Try.func40, Try.ntmps40
                go_wp2_with (first | (go_at_call 75; (with_reducible refine (HN.out _ _ (by assumption)).mono ?_); rintro e w' ⟨rfl, rfl⟩) | (go_at_call 76; (with_reducible refine (HW.out _ _ _ _).mono ?_); rintro e w' ⟨rfl, rfl⟩))
                go_ret
                exact ⟨ret_b HMb.out.symm, (Below.refl _ _).alloc (Nat.le_refl _) _⟩
            · skip
              have HMb := Lib.hid (show M = false from HBad.out (by rintro ⟨⟨_, _, _, h4, _⟩, h5⟩; omega))
              clear HBad HGood
              go_enter Try.func40, Try.ntmps40
              go_wp2_with (first | (go_at_call 75; (with_reducible refine (HN.out _ _ (by assumption)).mono ?_); rintro e w' ⟨rfl, rfl⟩) | (go_at_call 76; (with_reducible refine (HW.out _ _ _ _).mono ?_); rintro e w' ⟨rfl, rfl⟩))
              go_ret
              exact ⟨ret_b HMb.out.symm, (Below.refl _ _).alloc (Nat.le_refl _) _⟩
          · skip
            have HMb := Lib.hid (show M = false from HBad.out (by rintro ⟨⟨_, _, _, h4, _⟩, h5⟩; omega))
            clear HBad HGood
            go_enter Try.func40, Try.ntmps40
            go_wp2_with (first | (go_at_call 75; (with_reducible refine (HN.out _ _ (by assumption)).mono ?_); rintro e w' ⟨rfl, rfl⟩) | (go_at_call 76; (with_reducible refine (HW.out _ _ _ _).mono ?_); rintro e w' ⟨rfl, rfl⟩))
            go_ret
            exact ⟨ret_b HMb.out.symm, (Below.refl _ _).alloc (Nat.le_refl _) _⟩
        · skip
          have HMb := Lib.hid (show M = false from HBad.out (by rintro ⟨⟨_, _, _, h4, _⟩, h5⟩; omega))
          clear HBad HGood
          go_enter Try.func40, Try.ntmps40
          go_wp2_with (first | (go_at_call 75; (with_reducible refine (HN.out _ _ (by assumption)).mono ?_); rintro e w' ⟨rfl, rfl⟩) | (go_at_call 76; (with_reducible refine (HW.out _ _ _ _).mono ?_); rintro e w' ⟨rfl, rfl⟩))
          go_ret
          exact ⟨ret_b HMb.out.symm, (Below.refl _ _).alloc (Nat.le_refl _) _⟩

end Go.Proofs.Ytbcmaaoddnaoiaa
