/-
  The law AverageFair: its walk.
-/
import Derived.Test.YtbcmaaoddnaoiaaLASums
import Derived.Test.YtbcmaaoddnaoiaaFewQ
import Derived.Test.YtbcmaaoddnaoiaaAValues
import Derived.Test.YtbcmaaoddnaoiaaWf
namespace Go.Proofs.Ytbcmaaoddnaoiaa
set_option linter.unusedVariables false
set_option linter.unusedSimpArgs false
open Go.RowKit

/-- A part is no more than what it is of, where no more is lost than there is. -/
theorem parts_le (T : Int) (zs : List Int) (hT : 0 ≤ T) (hz : ∀ x ∈ zs, 0 ≤ x) (hTS : T ≤ sumL zs) (i : Nat) (hi : i < zs.length) : (partsOf T zs).getD i 0 ≤ zs[i] := by
  have h0 := sumL_nonneg zs hz
  by_cases hS : sumL zs = 0
  · obtain rfl : T = 0 := by omega
    rw [parts_zero zs hz]
    have := hz _ (List.getElem_mem hi)
    simpa [hi] using this
  · have hS0 : 0 < sumL zs := by omega
    have hzi := hz _ (List.getElem_mem hi)
    have hle : T * zs[i] ≤ sumL zs * zs[i] := Int.mul_le_mul_of_nonneg_right hTS hzi
    have he := Int.mul_ediv_add_emod (T * zs[i]) (sumL zs)
    have hr0 := Int.emod_nonneg (T * zs[i]) hS
    rcases parts_near T zs hS0 i hi with h | ⟨h, h2⟩
    · rw [h]
      exact Int.le_of_mul_le_mul_left (by omega) hS0
    · rw [h]
      have : sumL zs * (T * zs[i] / sumL zs) < sumL zs * zs[i] := by omega
      have := Int.lt_of_mul_lt_mul_left this h0
      omega
/-- Equal values bear nearly the same. -/
theorem parts_same (T : Int) (zs : List Int) (hT : 0 ≤ T) (hz : ∀ x ∈ zs, 0 ≤ x) (hTS : T ≤ sumL zs) (i k : Nat) (hi : i < zs.length) (hk : k < zs.length) (h : zs[i] = zs[k]) :
    (partsOf T zs).getD i 0 - (partsOf T zs).getD k 0 ≤ 1 ∧ (partsOf T zs).getD k 0 - (partsOf T zs).getD i 0 ≤ 1 := by
  have h0 := sumL_nonneg zs hz
  by_cases hS : sumL zs = 0
  · obtain rfl : T = 0 := by omega
    rw [parts_zero zs hz]
    simp [hi, hk]
  · have n1 := parts_near T zs (by omega) i hi
    have n2 := parts_near T zs (by omega) k hk
    rw [h] at n1
    omega

def fairOut (L : List (ByteArray × Int)) (m : Nat) (i k : Int) : Prop := fewG L m = false ∨ i < 0 ∨ (L.length : Int) ≤ i ∨ k < 0 ∨ (L.length : Int) ≤ k

set_option maxRecDepth 100000 in
set_option maxHeartbeats 3200000 in
theorem l_afair_out (a b : Option Addr) (n c m d : Nat) (L : List (ByteArray × Int)) (spent i k : Int) (w : World) (hn : L.length = n) (hm : n ≤ 9223372036854775807) (hr : Rd w a (cellsI L)) (hs : ∀ p ∈ L, p.1.size ≤ 9223372036854775807) (hgm : m ≤ 9223372036854775807) (h : fairOut L m i k) :
    Calls Try.prog 8 #[.slice a n c, .slice b m d, .int .i64 spent, .int .i64 i, .int .i64 k] w fun e w' => e = .returned (.bool true) ∧ Below w.heap.size w w' := by
  unfold fairOut at h
  rw [hn] at h
  have HF := Lib.hid (fun w hr => c_fewq a b n c m d L w hn hm hgm hr hs)
  have HR := Lib.hid hr
  clear hr hs hn
  by_cases h1 : fewG L m = false
  · rw [h1] at HF
    clear h h1
    go_enter Try.func8, Try.ntmps8
    go_wp2_with fail
    refine (c_awake43 _).mono ?_
    rintro e w1 ⟨rfl, hb1⟩
    have HR1 := Lib.hid (HR.out.below hb1)
    go_wp2_with fail
    refine (HF.out _ HR1.out).mono ?_
    rintro e w2 ⟨rfl, rfl⟩
    go_wp2_with fail
    go_ret
    exact ⟨rfl, hb1⟩
  · have h1' : fewG L m = true := by simpa using h1
    rw [h1'] at HF
    have h2 : i < 0 ∨ (n : Int) ≤ i ∨ k < 0 ∨ (n : Int) ≤ k := by
      rcases h with h | h
      · exact absurd h h1
      · exact h
    clear h h1 h1'
    by_cases g1 : i < 0
    · have f1 : decide (i < 0) = true := by simpa using g1
      go_enter Try.func8, Try.ntmps8
      go_wp2_with fail
      refine (c_awake43 _).mono ?_
      rintro e w1 ⟨rfl, hb1⟩
      have HR1 := Lib.hid (HR.out.below hb1)
      go_wp2_with fail
      refine (HF.out _ HR1.out).mono ?_
      rintro e w2 ⟨rfl, rfl⟩
      go_wp2_with fail
      go_ret
      exact ⟨rfl, hb1⟩
    · have f1 : decide (i < 0) = false := by simpa using g1
      by_cases g2 : (n : Int) ≤ i
      · have f2 : decide ((n : Int) ≤ i) = true := by simpa using g2
        go_enter Try.func8, Try.ntmps8
        go_wp2_with fail
        refine (c_awake43 _).mono ?_
        rintro e w1 ⟨rfl, hb1⟩
        have HR1 := Lib.hid (HR.out.below hb1)
        go_wp2_with fail
        refine (HF.out _ HR1.out).mono ?_
        rintro e w2 ⟨rfl, rfl⟩
        go_wp2_with fail
        go_ret
        exact ⟨rfl, hb1⟩
      · have f2 : decide ((n : Int) ≤ i) = false := by simpa using g2
        by_cases g3 : k < 0
        · have f3 : decide (k < 0) = true := by simpa using g3
          go_enter Try.func8, Try.ntmps8
          go_wp2_with fail
          refine (c_awake43 _).mono ?_
          rintro e w1 ⟨rfl, hb1⟩
          have HR1 := Lib.hid (HR.out.below hb1)
          go_wp2_with fail
          refine (HF.out _ HR1.out).mono ?_
          rintro e w2 ⟨rfl, rfl⟩
          go_wp2_with fail
          go_ret
          exact ⟨rfl, hb1⟩
        · have f3 : decide (k < 0) = false := by simpa using g3
          have g4 : (n : Int) ≤ k := by omega
          have f4 : decide ((n : Int) ≤ k) = true := by simpa using g4
          go_enter Try.func8, Try.ntmps8
          go_wp2_with fail
          refine (c_awake43 _).mono ?_
          rintro e w1 ⟨rfl, hb1⟩
          have HR1 := Lib.hid (HR.out.below hb1)
          go_wp2_with fail
          refine (HF.out _ HR1.out).mono ?_
          rintro e w2 ⟨rfl, rfl⟩
          go_wp2_with fail
          go_ret
          exact ⟨rfl, hb1⟩

end Go.Proofs.Ytbcmaaoddnaoiaa
