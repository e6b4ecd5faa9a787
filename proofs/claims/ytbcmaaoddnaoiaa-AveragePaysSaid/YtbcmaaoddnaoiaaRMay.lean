/-
  The reference's May: its walk.
-/
import Derived.Test.YtbcmaaoddnaoiaaAMay
import Derived.Test.YtbcmaaoddnaoiaaRName
import Derived.BigQuiet
namespace Go.Proofs.Ytbcmaaoddnaoiaa
set_option linter.unusedVariables false
set_option linter.unusedSimpArgs false
open Go.RowKit

theorem bytes_eq {s t : ByteArray} (h : s.data.toList = t.data.toList) : s = t := by
  cases s; cases t
  congr
  exact Array.toList_inj.1 h

set_option maxRecDepth 100000 in
set_option maxHeartbeats 3200000 in
theorem c_rmay (a : Option Addr) (n c : Nat) (L : List (ByteArray × Int)) (w : World) (hn : L.length = n) (hm : n ≤ 1048576) (hr : Rd w a (cellsI L)) (hs : ∀ p ∈ L, p.1.size ≤ 9223372036854775807) :
    Calls Try.prog 54 #[.slice a n c] w fun e w' => e = .returned (.bool (mayB L)) ∧ ∃ q, w' = w.drewN q := by
  have HR := Lib.hid hr
  have HN := Lib.hid hn
  have HSz := Lib.hid hs
  clear hr hn hs
  go_enter Try.func54, Try.ntmps54
  go_wp2
  go_loopw [3] (fun x wr => ∃ (k : Nat), x = .int .i64 k ∧ k ≤ n ∧ Hid (mayGo [] L = mayGo (namesI (L.take k)) (L.drop k)) ∧ ∃ q, wr = w.drewN q) (fun x _ => n - (intOf x).toNat)
  case atStart => exact ⟨0, rfl, by omega, by show _ = _; simp [namesI], 0, rfl⟩
  case round =>
    obtain ⟨k, rfl, hk, hG, q, rfl⟩ := hrel
    by_cases hlt : k < n
    · have hkz : k < L.length := by rw [HN.out]; exact hlt
      obtain ⟨b, o, rfl, hb, hc1, hc2⟩ := intr_at HR.out k hkz
      have hst := mayGo_step L k hkz
      rw [← hG.out] at hst
      have hsz := HSz.out L[k] (List.getElem_mem hkz)
      generalize L[k].1 = s at *
      generalize L[k].2 = v at *
      have HST := Lib.hid hst
      clear hst
      have H1 := Lib.hid (fun w => c_rname s w hsz)
      have hfalse : nameB s = false ∨ decide (s.data.toList ∈ namesI (L.take k)) = true ∨ amtB v = false → mayB L = false := by
        intro h
        unfold mayB
        rw [HST.out]
        rcases h with h | h | h <;> rw [h] <;> simp
      have HF := Lib.hid hfalse
      clear hfalse
      cases h1 : nameB s
      · have HF1 := Lib.hid (HF.out (.inl h1))
        rw [h1] at H1
        clear h1
        go_wp2_with (go_at_call 90; refine (H1.out _).mono ?_; rintro e w' ⟨rfl, rfl⟩)
        go_ret
        exact ⟨ret_b HF1.out.symm, q, rfl⟩
      · rw [h1] at H1
        cases h3 : amtB v
        · have HF1 := Lib.hid (HF.out (.inr (.inr h3)))
          have hv : v < 0 ∨ (0 ≤ v ∧ 1099511627776 < v) := by
            unfold amtB at h3
            simp at h3
            omega
          clear h1 h3
          rcases hv with hv | ⟨hv, hv2⟩
          · go_wp2_with (go_at_call 90; refine (H1.out _).mono ?_; rintro e w' ⟨rfl, rfl⟩)
            go_ret
            exact ⟨ret_b HF1.out.symm, q, rfl⟩
          · go_wp2_with (go_at_call 90; refine (H1.out _).mono ?_; rintro e w' ⟨rfl, rfl⟩)
            go_ret
            exact ⟨ret_b HF1.out.symm, q, rfl⟩
        · have hv : 0 ≤ v ∧ v ≤ 1099511627776 := by unfold amtB at h3; simpa using h3
          obtain ⟨v0, v1⟩ := hv
          have H13 := Lib.hid (And.intro h1 h3)
          clear h1 h3
          go_wp2_with (go_at_call 90; refine (H1.out _).mono ?_; rintro e w' ⟨rfl, rfl⟩)
          go_loopw [4] (fun x wr => ∃ (j : Nat), x = .int .i64 j ∧ j ≤ k ∧ Hid (s.data.toList ∉ namesI (L.take j)) ∧ ∃ q, wr = w.drewN q) (fun x _ => k - (intOf x).toNat)
          case atStart => exact ⟨0, rfl, by omega, by show ¬ _; simp [namesI], q, rfl⟩
          case round =>
            obtain ⟨j, rfl, hj, hJ, q, rfl⟩ := hrel
            by_cases hlt2 : j < k
            · have hjz : j < L.length := by omega
              obtain ⟨b', o', e', hb', hd1, hd2⟩ := intr_at HR.out j hjz
              injection e' with e'
              injection e' with e' e''
              subst e' e''
              have hts := namesI_take_succ L j hjz
              have hmem : L[j].1.data.toList ∈ namesI (L.take k) := by
                unfold namesI
                refine List.mem_map.2 ⟨L[j], ?_, rfl⟩
                exact List.mem_iff_getElem.2 ⟨j, by simp; omega, by simp⟩
              have HMem := Lib.hid hmem
              have HTS := Lib.hid hts
              clear hmem hts
              generalize L[j].1 = t at *
              generalize L[j].2 = u at *
              by_cases hst : t = s
              · subst hst
                have HF1 := Lib.hid (HF.out (.inr (.inl (by simpa using HMem.out))))
                clear hJ
                go_wp2
                go_quiet (fail)
                go_wp2
                go_ret
                exact ⟨ret_b HF1.out.symm, _, World.drewN_drewN ..⟩
              · have t1 : (t.toList == s.toList) = false := by
                  rw [beq_eq_false_iff_ne]
                  intro h
                  exact hst (bytes_eq (by simpa [ByteArray.toList_eq] using h))
                have hJ2 := Lib.hid (show s.data.toList ∉ namesI (L.take (j + 1)) from by
                  rw [HTS.out]
                  simp only [List.mem_append, List.mem_singleton, not_or]
                  exact ⟨hJ.out, fun h => hst (bytes_eq h).symm⟩)
                clear hst hJ
                go_wp2
                go_quiet (fail)
                go_wp2
                go_round
                case rel => exact ⟨j + 1, by go_num, by omega, hJ2, _, rfl⟩
                case measure => simp [intOf]; omega
            · obtain rfl : j = k := by omega
              have hG2 := Lib.hid (show mayGo [] L = mayGo (namesI (L.take (j + 1))) (L.drop (j + 1)) from by
                rw [HST.out, H13.out.1, H13.out.2]
                have : decide (s.data.toList ∈ namesI (L.take j)) = false := by simpa using hJ.out
                rw [this]; simp)
              clear hJ
              go_wp2
              go_round
              case rel => exact ⟨j + 1, by go_num, by omega, hG2, _, rfl⟩
              case measure => simp [intOf]; omega
    · obtain rfl : k = n := by omega
      have h1 := hG.out
      rw [List.drop_of_length_le (by rw [HN.out]; exact Nat.le_refl _)] at h1
      have hmay : mayB L = decide (1 ≤ k ∧ k ≤ 4096) := by unfold mayB; rw [h1, HN.out]; simp [mayGo]
      have HM := Lib.hid hmay
      clear h1 hG hmay
      go_wp2
      all_goals
        go_ret
        exact ⟨ret_b (HM.out.trans (Bool.eq_iff_iff.2 (by simp; try omega))).symm, _, rfl⟩

end Go.Proofs.Ytbcmaaoddnaoiaa
