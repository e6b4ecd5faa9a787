/-
  The law's few: its walk, the world unchanged.
-/
import Derived.Test.YtbcmaaoddnaoiaaDebts
namespace Go.Proofs.Ytbcmaaoddnaoiaa
set_option linter.unusedVariables false
set_option linter.unusedSimpArgs false
open Go.RowKit

set_option maxHeartbeats 800000 in
theorem c_rfewq (a : Option Addr) (n c : Nat) (L : List (ByteArray × Int)) (w : World) (hn : L.length = n) (hm : n ≤ 9223372036854775807) (hr : Rd w a (cellsI L)) (hs : ∀ p ∈ L, p.1.size ≤ 9223372036854775807) :
    Calls Try.prog 44 #[.slice a n c] w fun e w' => e = .returned (.bool (fewI L)) ∧ w = w' := by
  have HR := Lib.hid hr
  have HN := Lib.hid hn
  have HSz := Lib.hid hs
  clear hr hn hs
  go_enter Try.func44, Try.ntmps44
  go_wp2
  go_loop [3] (fun i => ∃ k : Nat, i = .int .i64 k ∧ k ≤ n ∧ Hid (∀ i, i < k → i ≤ 30 ∧ (L.getD i (⟨#[]⟩, 0)).1.size ≤ 60)) (fun i => n - (intOf i).toNat)
  case atStart => exact ⟨0, rfl, by omega, by intro i hi; omega⟩
  case round =>
    obtain ⟨k, rfl, hk, hA⟩ := hrel
    by_cases hlt : k < n
    · have hkL : k < L.length := by rw [HN.out]; exact hlt
      obtain ⟨b, o, rfl, hb, hc1, hc2⟩ := intr_at HR.out k hkL
      have hsz := HSz.out _ (List.getElem_mem hkL)
      have hget : L.getD k (⟨#[]⟩, 0) = L[k] := by simp [hkL]
      by_cases hbad : k ≤ 30 ∧ L[k].1.size ≤ 60
      · have hAll := Lib.hid (show ∀ i, i < k + 1 → i ≤ 30 ∧ (L.getD i (⟨#[]⟩, 0)).1.size ≤ 60 from fun i hi => by
          rcases Nat.lt_or_ge i k with h | h
          · exact hA.out i h
          · obtain rfl : i = k := by omega
            rw [hget]; exact hbad)
        obtain ⟨t1, t2⟩ := hbad
        clear hget
        generalize L[k].1 = s at *
        generalize L[k].2 = v at *
        go_wp2
        go_round
        case rel => exact ⟨k + 1, by go_num, by omega, hAll⟩
        case measure => simp [intOf]; omega
      · have hF := Lib.hid (fewI_false hkL (by rw [hget]; exact hbad))
        clear hget
        generalize L[k].1 = s at *
        generalize L[k].2 = v at *
        by_cases h30 : k ≤ 30
        · have t2 : ¬ s.size ≤ 60 := fun h => hbad ⟨h30, h⟩
          clear hbad
          go_wp2
          go_ret
          exact ⟨ret_b hF.out.symm, rfl⟩
        · clear hbad
          go_wp2
          go_ret
          exact ⟨ret_b hF.out.symm, rfl⟩
    · obtain rfl : k = n := by omega
      have hF := Lib.hid (show fewI L = true from by unfold fewI; simp only [decide_eq_true_eq]; rw [HN.out]; exact hA.out)
      go_wp2
      go_ret
      exact ⟨ret_b hF.out.symm, rfl⟩

set_option maxHeartbeats 800000 in
theorem c_fewq (a b : Option Addr) (n c m d : Nat) (L : List (ByteArray × Int)) (w : World) (hn : L.length = n) (hm : n ≤ 9223372036854775807) (hgm : m ≤ 9223372036854775807) (hr : Rd w a (cellsI L)) (hs : ∀ p ∈ L, p.1.size ≤ 9223372036854775807) :
    Calls Try.prog 16 #[.slice a n c, .slice b m d] w fun e w' => e = .returned (.bool (fewG L m)) ∧ w = w' := by
  have HF := Lib.hid (c_rfewq a n c L w hn hm hr hs)
  clear hr hn hs
  unfold fewG
  generalize fewI L = f at *
  cases f <;> (
    go_enter Try.func16, Try.ntmps16
    go_wp2_with fail
    refine HF.out.mono ?_
    rintro e w1 ⟨rfl, rfl⟩
    go_wp2_with fail
    all_goals (
      go_ret
      exact ⟨ret_b (by simp <;> omega), rfl⟩))

end Go.Proofs.Ytbcmaaoddnaoiaa
