/-
  The reference's Same: its walk.
-/
import Derived.Test.YtdkabldhkgidjaaDoorRow
import Derived.Test.YtdkabldhkgidjaaDoorRows
namespace Go.Proofs.YtdkabldhkgidjaaDoor
set_option linter.unusedVariables false
set_option linter.unusedSimpArgs false
open Go.RowKit

set_option maxHeartbeats 800000 in
theorem c_same (a b : Option Addr) (n c m d : Nat) (xs ys : List Int) (w : World) (hx : xs.length = n) (hy : ys.length = m) (hn : n ≤ 9223372036854775807) (hm : m ≤ 9223372036854775807) (ha : Rd w a (vals .i64 xs)) (hb : Rd w b (vals .i64 ys)) :
    Calls Tryd.prog 19 #[.slice a n c, .slice b m d] w fun e w' => e = .returned (.bool (decide (xs = ys))) ∧ ∃ q, w' = w.drewN q := by
  have HX := Lib.hid hx
  have HY := Lib.hid hy
  have HA := Lib.hid ha
  have HB := Lib.hid hb
  clear hx hy ha hb
  by_cases hnm : n = m
  · subst hnm
    go_enter Tryd.func19, Tryd.ntmps19
    go_wp2
    go_loopw [5] (fun i wr => ∃ k : Nat, i = .int .i64 k ∧ k ≤ n ∧ Hid (xs.take k = ys.take k) ∧ ∃ q, wr = w.drewN q) (fun i _ => n - (intOf i).toNat)
    case atStart => exact ⟨0, rfl, by omega, by show _ = _; simp, 0, rfl⟩
    case round =>
      obtain ⟨k, rfl, hk, hf, q, rfl⟩ := hrel
      by_cases hlt : k < n
      · have hkx : k < xs.length := by rw [HX.out]; exact hlt
        have hky : k < ys.length := by rw [HY.out]; exact hlt
        obtain ⟨b1, o1, rfl, hb1, hall, hc1⟩ := HA.out.at k (by simpa using hkx)
        clear hall
        obtain ⟨b2, o2, rfl, hb2, hall, hc2⟩ := HB.out.at k (by simpa using hky)
        clear hall
        rw [vals_get .i64 xs k hkx] at hc1
        rw [vals_get .i64 ys k hky] at hc2
        by_cases he : xs[k] = ys[k]
        · have hs := Lib.hid (show xs.take (k + 1) = ys.take (k + 1) from by
            rw [List.take_succ_eq_append_getElem hkx, List.take_succ_eq_append_getElem hky, hf.out, he])
          rw [← he] at hc2
          clear he
          generalize xs[k] = x at *
          go_wp2
          go_region
          all_goals
            go_wp2
            go_round
            case rel => exact ⟨k + 1, by go_num, by omega, hs, q + 1, rfl⟩
            case measure => simp [intOf]; omega
        · have hs := Lib.hid (show decide (xs = ys) = false from by
            simp only [decide_eq_false_iff_not]
            intro e
            apply he
            subst e
            rfl)
          have t1 : (xs[k] == ys[k]) = false := by simpa using he
          have t2 : (xs[k] != ys[k]) = true := by simpa using he
          clear he
          generalize xs[k] = x at *
          generalize ys[k] = y at *
          go_wp2
          go_region
          all_goals
            go_wp2
            go_ret
            exact ⟨ret_b hs.out.symm, q + 1, rfl⟩
      · obtain rfl : k = n := by omega
        have h1 := hf.out
        rw [List.take_of_length_le (by rw [HX.out]; exact Nat.le_refl _), List.take_of_length_le (by rw [HY.out]; exact Nat.le_refl _)] at h1
        have h2 := Lib.hid h1
        clear h1
        go_wp2
        go_ret
        exact ⟨ret_b (by rw [h2.out]; simp), q, rfl⟩
  · have hs := Lib.hid (show decide (xs = ys) = false from by
      simp only [decide_eq_false_iff_not]
      intro e
      apply hnm
      rw [← HX.out, ← HY.out, e])
    have t1 : ((n : Int) == m) = false := by simpa using by omega
    have t2 : ((n : Int) != m) = true := by simpa using by omega
    clear hnm
    go_enter Tryd.func19, Tryd.ntmps19
    go_wp2
    go_ret
    exact ⟨ret_b hs.out.symm, 0, rfl⟩

end Go.Proofs.YtdkabldhkgidjaaDoor
