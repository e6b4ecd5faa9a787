/-
  The law DiscountLonger: its walk, every input.
-/
import Derived.Test.YtagdibogjlmgmaaA5
namespace Go.Proofs.Ytagdibogjlmgmaa
set_option linter.unusedVariables false
set_option linter.unusedSimpArgs false
open Go.RowKit

set_option maxHeartbeats 1600000 in
theorem l_longer (s m n d dr t lg base : Int) (w : World) :
    Calls Try.prog 4 #[.int .i64 s, .int .i64 m, .agg #[.int .i64 n, .int .i64 d], .int .i64 dr, .int .i64 t, .int .i64 lg, .int .i64 base] w fun e w' => e = .returned (.bool true) ∧ Below w.heap.size w w' := by
  by_cases hv : (0 ≤ m ∧ 0 ≤ dr ∧ 0 ≤ lg ∧ m ≤ 1099511627776 ∧ dr ≤ 1048576 ∧ lg ≤ 1048576) ∧ 0 ≤ n ∧ n ≤ 1048576 ∧ 0 ≤ s ∧ s ≤ 1099511627776 ∧ 0 ≤ t ∧ t ≤ 1048576
  · obtain ⟨⟨a1, a2, a3, a4, a5, a6⟩, a7, a8, a9, b1, b2, b3⟩ := hv
    cases hB1 : intB s n d t base
    · cases hB2 : intB (s + m) (n + dr) d (t + lg) base
      · exact l_longer_00 s m n d dr t lg base w a1 a2 a3 a4 a5 a6 a7 a8 a9 b1 b2 b3 _ _ hB1 hB2 rfl rfl
      · exact l_longer_01 s m n d dr t lg base w a1 a2 a3 a4 a5 a6 a7 a8 a9 b1 b2 b3 _ _ hB1 hB2 rfl rfl
    · cases hB2 : intB (s + m) (n + dr) d (t + lg) base
      · exact l_longer_10 s m n d dr t lg base w a1 a2 a3 a4 a5 a6 a7 a8 a9 b1 b2 b3 _ _ hB1 hB2 rfl rfl
      · exact l_longer_11 s m n d dr t lg base w a1 a2 a3 a4 a5 a6 a7 a8 a9 b1 b2 b3 _ _ hB1 hB2 rfl rfl
  · have hV := Lib.hid hv
    clear hv
    go_enter Try.func4, Try.ntmps4
    go_wp2_with (go_at_call 14; refine (c_awake39 _).mono ?_; rintro e w1 ⟨rfl, hb⟩; obtain ⟨hc, hf⟩ := bcell hb; have hBw1 : Below w.heap.size w w1 := Below.trans (by go_grown) (hb.mono (by go_size)); have hzw1 := hBw1.size; have hsw10 : w.heap.size < w1.heap.size := (by have := hb.size; (try simp at this); omega))
    all_goals first | (go_ret; refine ⟨rfl, ?_⟩; repeat' (first | (with_reducible exact Below.refl _ _) | (with_reducible assumption) | (with_reducible refine below_drewN ?_ _) | (with_reducible refine Below.drew ?_) | (with_reducible refine Below.alloc ?_ ?_ _) | (with_reducible refine Below.setCell ?_ ?_ _) | go_size)) | (exfalso; have := hV.out; omega)

end Go.Proofs.Ytagdibogjlmgmaa
