/-
  The reference's Error: its walk.
-/
import Derived.Test.YtbcmaaoddnaoiaaWrong
import Derived.Test.YtbcmaaoddnaoiaaSplitNum
namespace Go.Proofs.Ytbcmaaoddnaoiaa
set_option linter.unusedVariables false
set_option linter.unusedSimpArgs false
open Go.RowKit

theorem any_of_take {p : Int → Bool} {zs : List Int} {k : Nat} (h : (zs.take k).any p = true) : zs.any p = true := by
  rw [← List.take_append_drop k zs, List.any_append, h]; rfl
theorem errS_1a {T : Int} {zs : List Int} (h : T < 0) : errS T zs = 1 := by unfold errS errV; rw [if_pos (.inl h)]
theorem errS_1b {T : Int} {zs : List Int} (h : zs.length = 0) : errS T zs = 1 := by unfold errS errV; rw [if_pos (.inr (.inl h))]
theorem errS_1c {T : Int} {zs : List Int} (h : (zs.any fun x => decide (x < 0)) = true) : errS T zs = 1 := by unfold errS errV; rw [if_pos (.inr (.inr h))]
theorem errS_3a {T : Int} {zs : List Int} (h0 : 0 ≤ T) (h1 : zs.length ≠ 0) (h2 : (zs.any fun x => decide (x < 0)) = false) (h : 1099511627776 < T ∨ 4096 < zs.length) : errS T zs = 3 := by
  unfold errS errV; rw [if_neg (by rw [h2]; rintro (h | h | h); exact absurd h (by omega); exact h1 h; cases h), if_pos (by rcases h with h | h; exact .inl h; exact .inr (.inr h))]
theorem errS_3b {T : Int} {zs : List Int} (h0 : 0 ≤ T) (h1 : zs.length ≠ 0) (h2 : (zs.any fun x => decide (x < 0)) = false) (h : (zs.any fun x => decide (1099511627776 < x)) = true) : errS T zs = 3 := by
  unfold errS errV; rw [if_neg (by rw [h2]; rintro (h | h | h); exact absurd h (by omega); exact h1 h; cases h), if_pos (.inr (.inl h))]
theorem sumL_zero {zs : List Int} (h : (zs.any fun x => decide (x < 0)) = false) : (sumL zs = 0 ↔ (zs.any fun x => decide (0 < x)) = false) := by
  induction zs with
  | nil => simp [sumL]
  | cons x r ih =>
    simp only [List.any_cons, Bool.or_eq_false_iff, decide_eq_false_iff_not] at h ⊢
    have := ih h.2
    have h3 : 0 ≤ sumL r := sumL_nonneg r (fun y hy => by
      have := h.2
      simp only [List.any_eq_false, decide_eq_true_eq] at this
      have := this y hy
      omega)
    rw [← this]
    simp only [sumL]
    omega
theorem errS_last {T : Int} {zs : List Int} (h0 : 0 ≤ T) (h1 : zs.length ≠ 0) (h2 : (zs.any fun x => decide (x < 0)) = false) (h3 : T ≤ 1099511627776) (h4 : zs.length ≤ 4096) (h5 : (zs.any fun x => decide (1099511627776 < x)) = false) :
    errS T zs = if sumL zs = 0 ∧ 0 < T then 4 else 0 := by
  have h6 := sumL_zero h2
  unfold errS errV
  rw [if_neg (by rw [h2]; rintro (h | h | h); exact absurd h (by omega); exact h1 h; cases h), if_neg (by rw [h5]; rintro (h | h | h); exact absurd h (by omega); cases h; exact absurd h (by omega))]
  by_cases hT : 0 < T
  · by_cases hs : sumL zs = 0
    · rw [if_pos ⟨hT, h6.1 hs⟩, if_pos ⟨hs, hT⟩]
    · rw [if_neg (by intro h; exact hs (h6.2 h.2)), if_neg (by intro h; exact hs h.1)]
  · rw [if_neg (by intro h; exact hT h.1), if_neg (by intro h; exact hT h.2)]

set_option maxHeartbeats 1600000 in
theorem c_rerror (T : Int) (a : Option Addr) (n c : Nat) (zs : List Int) (w : World) (hn : zs.length = n) (hm : n ≤ 9223372036854775807) (hr : Rd w a (vals .i64 zs)) :
    Calls Try.prog 57 #[.int .i64 T, .slice a n c] w fun e w' => e = .returned (.int .i64 (errS T zs)) ∧ w = w' := by
  have HR := Lib.hid hr
  have HN := Lib.hid hn
  clear hr hn
  by_cases hT : T < 0
  · have h := Lib.hid (errS_1a (zs := zs) hT)
    go_enter Try.func57, Try.ntmps57
    go_wp2
    go_ret
    exact ⟨ret_i h.out.symm, rfl⟩
  · by_cases h0 : n = 0
    · have h := Lib.hid (errS_1b (T := T) (HN.out.trans h0))
      subst h0
      go_enter Try.func57, Try.ntmps57
      go_wp2
      go_ret
      exact ⟨ret_i h.out.symm, rfl⟩
    · have hT' : 0 ≤ T := by omega
      have hn0 : 0 < n := by omega
      have t0 : ((n : Int) == 0) = false := by simpa using h0
      have HN0 := Lib.hid (show zs.length ≠ 0 by rw [HN.out]; exact h0)
      clear h0 hT
      go_enter Try.func57, Try.ntmps57
      go_wp2
      go_loop [5] (fun i => ∃ k : Nat, i = .int .i64 k ∧ k ≤ n ∧ Hid (((zs.take k).any fun x => decide (x < 0)) = false)) (fun i => n - (intOf i).toNat)
      case atStart => exact ⟨0, rfl, by omega, by show _ = _; simp⟩
      case round =>
        obtain ⟨k, rfl, hk, hf⟩ := hrel
        by_cases hlt : k < n
        · have hkz : k < zs.length := by rw [HN.out]; exact hlt
          obtain ⟨b, o, rfl, hb, hall, hc⟩ := HR.out.at k (by simpa using hkz)
          clear hall
          rw [vals_get .i64 zs k hkz] at hc
          have hs := any_take_succ (fun x => decide (x < 0)) zs k hkz
          generalize zs[k] = x at *
          have HS := Lib.hid hs
          clear hs
          by_cases hx : x < 0
          · go_wp2
            go_ret
            refine ⟨ret_i (errS_1c (any_of_take (k := k + 1) ?_)).symm, rfl⟩
            rw [HS.out]; simp [hx]
          · go_wp2
            go_round
            case rel => exact ⟨k + 1, by go_num, by omega, by show _ = _; rw [HS.out, hf.out]; simp; omega⟩
            case measure => simp [intOf]; omega
        · obtain rfl : k = n := by omega
          have h1 := hf.out
          rw [List.take_of_length_le (by rw [HN.out]; exact Nat.le_refl _)] at h1
          have H1 := Lib.hid h1
          clear h1 hf
          by_cases hT3 : 1099511627776 < T
          · go_wp2
            go_ret
            exact ⟨ret_i (errS_3a hT' HN0.out H1.out (.inl hT3)).symm, rfl⟩
          · by_cases hn3 : 4096 < k
            · go_wp2
              go_ret
              exact ⟨ret_i (errS_3a hT' HN0.out H1.out (.inr (by rw [HN.out]; exact hn3))).symm, rfl⟩
            · go_wp2
              go_loop [6, 7] (fun s i => ∃ (j : Nat) (y : Int), i = .int .i64 j ∧ s = .int .i64 y ∧ j ≤ k ∧ 0 ≤ y ∧ y ≤ 1099511627776 * j ∧ Hid (y = sumL (zs.take j)) ∧ Hid (((zs.take j).any fun x => decide (1099511627776 < x)) = false)) (fun _ i => k - (intOf i).toNat)
              case atStart => exact ⟨0, 0, rfl, rfl, by omega, by omega, by omega, by show _ = _; simp [sumL], by show _ = _; simp⟩
              case round =>
                obtain ⟨j, y, rfl, rfl, hj, hy0, hy1, hy, hf⟩ := hrel
                by_cases hlt : j < k
                · have hkz : j < zs.length := by rw [HN.out]; exact hlt
                  obtain ⟨b, o, rfl, hb, hall, hc⟩ := HR.out.at j (by simpa using hkz)
                  clear hall
                  rw [vals_get .i64 zs j hkz] at hc
                  have hs := any_take_succ (fun x => decide (1099511627776 < x)) zs j hkz
                  have ht := sumL_take_succ' zs j hkz
                  have hx0 : 0 ≤ zs[j] := by
                    have h1 := H1.out
                    simp only [List.any_eq_false, decide_eq_true_eq] at h1
                    have := h1 zs[j] (List.getElem_mem hkz)
                    omega
                  generalize zs[j] = x at *
                  have HS := Lib.hid hs
                  have HT := Lib.hid ht
                  clear hs ht
                  by_cases hx : 1099511627776 < x
                  · go_wp2
                    go_ret
                    refine ⟨ret_i (errS_3b hT' HN0.out H1.out (any_of_take (k := j + 1) ?_)).symm, rfl⟩
                    rw [HS.out]; simp [hx]
                  · go_wp2
                    go_round
                    case rel => exact ⟨j + 1, y + x, by go_num, rfl, by omega, by omega, by omega, by have h1 := HT.out; have h2 := hy.out; show _ = _; omega, by show _ = _; rw [HS.out, hf.out]; simp; omega⟩
                    case measure => simp [intOf]; omega
                · obtain rfl : j = k := by omega
                  have h2 := hf.out
                  have h3 := hy.out
                  rw [List.take_of_length_le (by rw [HN.out]; exact Nat.le_refl _)] at h2 h3
                  have hlast := errS_last hT' HN0.out H1.out (by omega) (by rw [HN.out]; omega) h2
                  rw [← h3] at hlast
                  have HL := Lib.hid hlast
                  clear hlast h2 h3 hf hy
                  by_cases hy : y = 0
                  · subst hy
                    by_cases hT0 : 0 < T
                    all_goals
                      go_wp2
                      go_ret
                      exact ⟨ret_i (by rw [HL.out]; simp; omega), rfl⟩
                  · have t1 : (y == 0) = false := by simpa using hy
                    go_wp2
                    go_ret
                    exact ⟨ret_i (by rw [HL.out]; simp; omega), rfl⟩

end Go.Proofs.Ytbcmaaoddnaoiaa
