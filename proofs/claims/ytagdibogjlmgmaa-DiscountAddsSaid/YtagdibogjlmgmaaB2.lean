/-
  The law DiscountAdds: its walk, every input.
-/
import Derived.Test.YtagdibogjlmgmaaB1
namespace Go.Proofs.Ytagdibogjlmgmaa
set_option linter.unusedVariables false
set_option linter.unusedSimpArgs false
open Go.RowKit

set_option maxHeartbeats 1600000 in
theorem l_adds (a b n dd t m base : Int) (w : World) :
    Calls Try.prog 6 #[.int .i64 a, .int .i64 b, .agg #[.int .i64 n, .int .i64 dd], .int .i64 t, .int .i64 m, .int .i64 base] w fun e w' => e = .returned (.bool true) ∧ Below w.heap.size w w' := by
  by_cases hv : 0 ≤ a ∧ 0 ≤ b ∧ a ≤ 274877906944 ∧ b ≤ 274877906944 ∧ 0 ≤ t ∧ 0 ≤ m ∧ t ≤ 262144 ∧ m ≤ 262144
  · obtain ⟨a1, a2, a3, a4, a5, a6, a7, a8⟩ := hv
    cases hr : intB (a + b) n dd t base
    · cases hd : intB a n dd (t + m) base
      · exact l_adds_00 a b n dd t m base w a1 a2 a3 a4 a5 a6 a7 a8 _ _ _ rfl rfl hr rfl hd
      · exact l_adds_01 a b n dd t m base w a1 a2 a3 a4 a5 a6 a7 a8 _ _ _ rfl rfl hr rfl hd
    · cases hd : intB a n dd (t + m) base
      · exact l_adds_10 a b n dd t m base w a1 a2 a3 a4 a5 a6 a7 a8 _ _ _ rfl rfl hr rfl hd
      · exact l_adds_11 a b n dd t m base w a1 a2 a3 a4 a5 a6 a7 a8 _ _ _ rfl rfl hr rfl hd
  · have hV := Lib.hid hv
    clear hv
    go_enter Try.func6, Try.ntmps6
    go_wp2_with (go_at_call 14; refine (c_awake39 _).mono ?_; rintro e w1 ⟨rfl, hb⟩; obtain ⟨hc, hf⟩ := bcell hb; have hBw1 : Below w.heap.size w w1 := Below.trans (by go_grown) (hb.mono (by go_size)); have hzw1 := hBw1.size; have hsw10 : w.heap.size < w1.heap.size := (by have := hb.size; (try simp at this); omega))
    all_goals first | (go_ret; refine ⟨rfl, ?_⟩; repeat' (first | (with_reducible exact Below.refl _ _) | (with_reducible assumption) | (with_reducible refine below_drewN ?_ _) | (with_reducible refine Below.drew ?_) | (with_reducible refine Below.alloc ?_ ?_ _) | (with_reducible refine Below.setCell ?_ ?_ _) | go_size)) | (exfalso; have := hV.out; omega)

end Go.Proofs.Ytagdibogjlmgmaa
