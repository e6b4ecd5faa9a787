/-
  The law DiscountFair: its walk.
-/
import Derived.Test.YtagdibogjlmgmaaFair
namespace Go.Proofs.Ytagdibogjlmgmaa
set_option linter.unusedVariables false
set_option linter.unusedSimpArgs false
open Go.RowKit

set_option maxHeartbeats 3200000 in
theorem l_fair_f (a b n d t base : Int) (w : World) (hB : intB a n d 0 base = false) : Calls Try.prog 5 #[.int .i64 a, .int .i64 b, .agg #[.int .i64 n, .int .i64 d], .int .i64 t, .int .i64 base] w fun e w' => e = .returned (.bool true) ∧ Below w.heap.size w w' := by
  have HB := Lib.hid hB
  clear hB
  go_enter Try.func5, Try.ntmps5
  go_wp2_with (go_at_call 14; refine (c_awake39 _).mono ?_; rintro e w1 ⟨rfl, hb⟩; obtain ⟨hc, hf⟩ := bcell hb; have hBw1 : Below w.heap.size w w1 := Below.trans (by go_grown) (hb.mono (by go_size)); have hzw1 := hBw1.size; have hsw10 : w.heap.size < w1.heap.size := (by have := hb.size; (try simp at this); omega); have qa : w1.cell? ⟨w.heap.size, 0, none⟩ = some (.int .i64 n) := (hc _ 0 (by go_size)).trans (by first | assumption | (simp [go_sem]; done)); have qb : w1.cell? ⟨w.heap.size, 1, none⟩ = some (.int .i64 d) := (hc _ 1 (by go_size)).trans (by first | assumption | (simp [go_sem]; done)))
  go_region_with (first | (go_at_call 19; refine (c_fair _ _ _ _ _ _ _).mono ?_; rintro e w2 ⟨rfl, hb⟩; obtain ⟨hc, hf⟩ := bcell hb; have hBw2 : Below w.heap.size w w2 := Below.trans (by go_grown) (hb.mono (by go_size)); have hzw2 := hBw2.size; have hsw20 : w.heap.size < w2.heap.size := (by have := hb.size; (try simp at this); omega); have qa : w2.cell? ⟨w.heap.size, 0, none⟩ = some (.int .i64 n) := (hc _ 0 (by go_size)).trans (by first | assumption | (simp [go_sem]; done)); have qb : w2.cell? ⟨w.heap.size, 1, none⟩ = some (.int .i64 d) := (hc _ 1 (by go_size)).trans (by first | assumption | (simp [go_sem]; done))) | (go_at_call 20; refine (c_fairR _ _ _ _ _ _ _).mono ?_; rintro e w3 ⟨rfl, hb⟩; obtain ⟨hc, hf⟩ := bcell hb; have hBw3 : Below w.heap.size w w3 := Below.trans (by go_grown) (hb.mono (by go_size)); have hzw3 := hBw3.size; have hsw30 : w.heap.size < w3.heap.size := (by have := hb.size; (try simp at this); omega); have qa : w3.cell? ⟨w.heap.size, 0, none⟩ = some (.int .i64 n) := (hc _ 0 (by go_size)).trans (by first | assumption | (simp [go_sem]; done)); have qb : w3.cell? ⟨w.heap.size, 1, none⟩ = some (.int .i64 d) := (hc _ 1 (by go_size)).trans (by first | assumption | (simp [go_sem]; done))))
  all_goals
    go_wp2_with (go_at_call 16; refine (c_interestP false _ _ _ _ _ _ HB.out).mono ?_; rintro e w4 ⟨rfl, hb⟩; obtain ⟨hc, hf⟩ := bcell hb; have hBw4 : Below w.heap.size w w4 := Below.trans (by go_grown) (hb.mono (by go_size)); have hzw4 := hBw4.size; have hsw40 : w.heap.size < w4.heap.size := (by have := hb.size; (try simp at this); omega))
    go_ret
    refine ⟨rfl, ?_⟩
    repeat' (first | (with_reducible exact Below.refl _ _) | (with_reducible assumption) | (with_reducible refine below_drewN ?_ _) | (with_reducible refine Below.drew ?_) | (with_reducible refine Below.alloc ?_ ?_ _) | (with_reducible refine Below.setCell ?_ ?_ _) | go_size)

set_option maxHeartbeats 6400000 in
theorem l_fair_t (a b n d t base : Int) (w : World) (hB : intB a n d 0 base = true) : Calls Try.prog 5 #[.int .i64 a, .int .i64 b, .agg #[.int .i64 n, .int .i64 d], .int .i64 t, .int .i64 base] w fun e w' => e = .returned (.bool true) ∧ Below w.heap.size w w' := by
  obtain ⟨z1, z2, z3⟩ := fair_zero hB
  obtain ⟨f1, f2, _⟩ := int_facts hB
  have HB := Lib.hid hB
  clear hB
  by_cases h1 : 1 ≤ a
  · have z4 := z2 h1
    by_cases h2 : a < 1099511627776
    · have z5 := z3 h2
      clear z2 z3
      go_enter Try.func5, Try.ntmps5
      go_wp2_with (go_at_call 14; refine (c_awake39 _).mono ?_; rintro e w1 ⟨rfl, hb⟩; obtain ⟨hc, hf⟩ := bcell hb; have hBw1 : Below w.heap.size w w1 := Below.trans (by go_grown) (hb.mono (by go_size)); have hzw1 := hBw1.size; have hsw10 : w.heap.size < w1.heap.size := (by have := hb.size; (try simp at this); omega); have qa : w1.cell? ⟨w.heap.size, 0, none⟩ = some (.int .i64 n) := (hc _ 0 (by go_size)).trans (by first | assumption | (simp [go_sem]; done)); have qb : w1.cell? ⟨w.heap.size, 1, none⟩ = some (.int .i64 d) := (hc _ 1 (by go_size)).trans (by first | assumption | (simp [go_sem]; done)))
      go_region_with (first | (go_at_call 19; refine (c_fair _ _ _ _ _ _ _).mono ?_; rintro e w2 ⟨rfl, hb⟩; obtain ⟨hc, hf⟩ := bcell hb; have hBw2 : Below w.heap.size w w2 := Below.trans (by go_grown) (hb.mono (by go_size)); have hzw2 := hBw2.size; have hsw20 : w.heap.size < w2.heap.size := (by have := hb.size; (try simp at this); omega); have qa : w2.cell? ⟨w.heap.size, 0, none⟩ = some (.int .i64 n) := (hc _ 0 (by go_size)).trans (by first | assumption | (simp [go_sem]; done)); have qb : w2.cell? ⟨w.heap.size, 1, none⟩ = some (.int .i64 d) := (hc _ 1 (by go_size)).trans (by first | assumption | (simp [go_sem]; done))) | (go_at_call 20; refine (c_fairR _ _ _ _ _ _ _).mono ?_; rintro e w3 ⟨rfl, hb⟩; obtain ⟨hc, hf⟩ := bcell hb; have hBw3 : Below w.heap.size w w3 := Below.trans (by go_grown) (hb.mono (by go_size)); have hzw3 := hBw3.size; have hsw30 : w.heap.size < w3.heap.size := (by have := hb.size; (try simp at this); omega); have qa : w3.cell? ⟨w.heap.size, 0, none⟩ = some (.int .i64 n) := (hc _ 0 (by go_size)).trans (by first | assumption | (simp [go_sem]; done)); have qb : w3.cell? ⟨w.heap.size, 1, none⟩ = some (.int .i64 d) := (hc _ 1 (by go_size)).trans (by first | assumption | (simp [go_sem]; done))))
      all_goals
        go_wp2_with (first | (go_at_call 16; refine (c_interestP true _ _ _ _ _ _ HB.out).mono ?_; rintro e w4 ⟨rfl, hb⟩; obtain ⟨hc, hf⟩ := bcell hb; have hBw4 : Below w.heap.size w w4 := Below.trans (by go_grown) (hb.mono (by go_size)); have hzw4 := hBw4.size; have hsw40 : w.heap.size < w4.heap.size := (by have := hb.size; (try simp at this); omega)) | (go_at_call 19; refine (c_fair _ _ _ _ _ _ _).mono ?_; rintro e w5 ⟨rfl, hb⟩; obtain ⟨hc, hf⟩ := bcell hb; have hBw5 : Below w.heap.size w w5 := Below.trans (by go_grown) (hb.mono (by go_size)); have hzw5 := hBw5.size; have hsw50 : w.heap.size < w5.heap.size := (by have := hb.size; (try simp at this); omega)))
        go_ret
        refine ⟨rfl, ?_⟩
        repeat' (first | (with_reducible exact Below.refl _ _) | (with_reducible assumption) | (with_reducible refine below_drewN ?_ _) | (with_reducible refine Below.drew ?_) | (with_reducible refine Below.alloc ?_ ?_ _) | (with_reducible refine Below.setCell ?_ ?_ _) | go_size)
    · clear z2 z3
      go_enter Try.func5, Try.ntmps5
      go_wp2_with (go_at_call 14; refine (c_awake39 _).mono ?_; rintro e w1 ⟨rfl, hb⟩; obtain ⟨hc, hf⟩ := bcell hb; have hBw1 : Below w.heap.size w w1 := Below.trans (by go_grown) (hb.mono (by go_size)); have hzw1 := hBw1.size; have hsw10 : w.heap.size < w1.heap.size := (by have := hb.size; (try simp at this); omega); have qa : w1.cell? ⟨w.heap.size, 0, none⟩ = some (.int .i64 n) := (hc _ 0 (by go_size)).trans (by first | assumption | (simp [go_sem]; done)); have qb : w1.cell? ⟨w.heap.size, 1, none⟩ = some (.int .i64 d) := (hc _ 1 (by go_size)).trans (by first | assumption | (simp [go_sem]; done)))
      go_region_with (first | (go_at_call 19; refine (c_fair _ _ _ _ _ _ _).mono ?_; rintro e w2 ⟨rfl, hb⟩; obtain ⟨hc, hf⟩ := bcell hb; have hBw2 : Below w.heap.size w w2 := Below.trans (by go_grown) (hb.mono (by go_size)); have hzw2 := hBw2.size; have hsw20 : w.heap.size < w2.heap.size := (by have := hb.size; (try simp at this); omega); have qa : w2.cell? ⟨w.heap.size, 0, none⟩ = some (.int .i64 n) := (hc _ 0 (by go_size)).trans (by first | assumption | (simp [go_sem]; done)); have qb : w2.cell? ⟨w.heap.size, 1, none⟩ = some (.int .i64 d) := (hc _ 1 (by go_size)).trans (by first | assumption | (simp [go_sem]; done))) | (go_at_call 20; refine (c_fairR _ _ _ _ _ _ _).mono ?_; rintro e w3 ⟨rfl, hb⟩; obtain ⟨hc, hf⟩ := bcell hb; have hBw3 : Below w.heap.size w w3 := Below.trans (by go_grown) (hb.mono (by go_size)); have hzw3 := hBw3.size; have hsw30 : w.heap.size < w3.heap.size := (by have := hb.size; (try simp at this); omega); have qa : w3.cell? ⟨w.heap.size, 0, none⟩ = some (.int .i64 n) := (hc _ 0 (by go_size)).trans (by first | assumption | (simp [go_sem]; done)); have qb : w3.cell? ⟨w.heap.size, 1, none⟩ = some (.int .i64 d) := (hc _ 1 (by go_size)).trans (by first | assumption | (simp [go_sem]; done))))
      all_goals
        go_wp2_with (first | (go_at_call 16; refine (c_interestP true _ _ _ _ _ _ HB.out).mono ?_; rintro e w4 ⟨rfl, hb⟩; obtain ⟨hc, hf⟩ := bcell hb; have hBw4 : Below w.heap.size w w4 := Below.trans (by go_grown) (hb.mono (by go_size)); have hzw4 := hBw4.size; have hsw40 : w.heap.size < w4.heap.size := (by have := hb.size; (try simp at this); omega)) | (go_at_call 19; refine (c_fair _ _ _ _ _ _ _).mono ?_; rintro e w5 ⟨rfl, hb⟩; obtain ⟨hc, hf⟩ := bcell hb; have hBw5 : Below w.heap.size w w5 := Below.trans (by go_grown) (hb.mono (by go_size)); have hzw5 := hBw5.size; have hsw50 : w.heap.size < w5.heap.size := (by have := hb.size; (try simp at this); omega)))
        go_ret
        refine ⟨rfl, ?_⟩
        repeat' (first | (with_reducible exact Below.refl _ _) | (with_reducible assumption) | (with_reducible refine below_drewN ?_ _) | (with_reducible refine Below.drew ?_) | (with_reducible refine Below.alloc ?_ ?_ _) | (with_reducible refine Below.setCell ?_ ?_ _) | go_size)
  · obtain rfl : a = 0 := by omega
    have z5 : fairV 0 1 n d 0 base = -1 := z3 (by omega)
    clear z2 z3
    go_enter Try.func5, Try.ntmps5
    go_wp2_with (go_at_call 14; refine (c_awake39 _).mono ?_; rintro e w1 ⟨rfl, hb⟩; obtain ⟨hc, hf⟩ := bcell hb; have hBw1 : Below w.heap.size w w1 := Below.trans (by go_grown) (hb.mono (by go_size)); have hzw1 := hBw1.size; have hsw10 : w.heap.size < w1.heap.size := (by have := hb.size; (try simp at this); omega); have qa : w1.cell? ⟨w.heap.size, 0, none⟩ = some (.int .i64 n) := (hc _ 0 (by go_size)).trans (by first | assumption | (simp [go_sem]; done)); have qb : w1.cell? ⟨w.heap.size, 1, none⟩ = some (.int .i64 d) := (hc _ 1 (by go_size)).trans (by first | assumption | (simp [go_sem]; done)))
    go_region_with (first | (go_at_call 19; refine (c_fair _ _ _ _ _ _ _).mono ?_; rintro e w2 ⟨rfl, hb⟩; obtain ⟨hc, hf⟩ := bcell hb; have hBw2 : Below w.heap.size w w2 := Below.trans (by go_grown) (hb.mono (by go_size)); have hzw2 := hBw2.size; have hsw20 : w.heap.size < w2.heap.size := (by have := hb.size; (try simp at this); omega); have qa : w2.cell? ⟨w.heap.size, 0, none⟩ = some (.int .i64 n) := (hc _ 0 (by go_size)).trans (by first | assumption | (simp [go_sem]; done)); have qb : w2.cell? ⟨w.heap.size, 1, none⟩ = some (.int .i64 d) := (hc _ 1 (by go_size)).trans (by first | assumption | (simp [go_sem]; done))) | (go_at_call 20; refine (c_fairR _ _ _ _ _ _ _).mono ?_; rintro e w3 ⟨rfl, hb⟩; obtain ⟨hc, hf⟩ := bcell hb; have hBw3 : Below w.heap.size w w3 := Below.trans (by go_grown) (hb.mono (by go_size)); have hzw3 := hBw3.size; have hsw30 : w.heap.size < w3.heap.size := (by have := hb.size; (try simp at this); omega); have qa : w3.cell? ⟨w.heap.size, 0, none⟩ = some (.int .i64 n) := (hc _ 0 (by go_size)).trans (by first | assumption | (simp [go_sem]; done)); have qb : w3.cell? ⟨w.heap.size, 1, none⟩ = some (.int .i64 d) := (hc _ 1 (by go_size)).trans (by first | assumption | (simp [go_sem]; done))))
    all_goals
      go_wp2_with (first | (go_at_call 16; refine (c_interestP true _ _ _ _ _ _ HB.out).mono ?_; rintro e w4 ⟨rfl, hb⟩; obtain ⟨hc, hf⟩ := bcell hb; have hBw4 : Below w.heap.size w w4 := Below.trans (by go_grown) (hb.mono (by go_size)); have hzw4 := hBw4.size; have hsw40 : w.heap.size < w4.heap.size := (by have := hb.size; (try simp at this); omega)) | (go_at_call 19; refine (c_fair _ _ _ _ _ _ _).mono ?_; rintro e w5 ⟨rfl, hb⟩; obtain ⟨hc, hf⟩ := bcell hb; have hBw5 : Below w.heap.size w w5 := Below.trans (by go_grown) (hb.mono (by go_size)); have hzw5 := hBw5.size; have hsw50 : w.heap.size < w5.heap.size := (by have := hb.size; (try simp at this); omega)))
      go_ret
      refine ⟨rfl, ?_⟩
      repeat' (first | (with_reducible exact Below.refl _ _) | (with_reducible assumption) | (with_reducible refine below_drewN ?_ _) | (with_reducible refine Below.drew ?_) | (with_reducible refine Below.alloc ?_ ?_ _) | (with_reducible refine Below.setCell ?_ ?_ _) | go_size)

theorem l_fair (a b n d t base : Int) (w : World) : Calls Try.prog 5 #[.int .i64 a, .int .i64 b, .agg #[.int .i64 n, .int .i64 d], .int .i64 t, .int .i64 base] w fun e w' => e = .returned (.bool true) ∧ Below w.heap.size w w' := by
  cases hB : intB a n d 0 base with
  | false => exact l_fair_f a b n d t base w hB
  | true => exact l_fair_t a b n d t base w hB

end Go.Proofs.Ytagdibogjlmgmaa
