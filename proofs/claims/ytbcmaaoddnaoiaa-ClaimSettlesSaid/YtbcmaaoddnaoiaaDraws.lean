/-
  Draws in memory; policy.right, Open: their walks.
-/
import Derived.Test.YtbcmaaoddnaoiaaRScaled
namespace Go.Proofs.Ytbcmaaoddnaoiaa
set_option linter.unusedVariables false
set_option linter.unusedSimpArgs false
open Go.RowKit

/-- Draws (the day, the amount) as cells. -/
def cellsW : List (Int × Int) → List Value
  | [] => []
  | p :: r => .int .i64 p.1 :: .int .i64 p.2 :: cellsW r
theorem cellsW_length (L : List (Int × Int)) : (cellsW L).length = L.length * 2 := by
  induction L with
  | nil => rfl
  | cons p r ih => simp only [cellsW, List.length_cons, ih]; omega
theorem cellsW_get (L : List (Int × Int)) (k : Nat) (h : k < L.length) : (cellsW L)[k * 2]? = some (.int .i64 L[k].1) ∧ (cellsW L)[k * 2 + 1]? = some (.int .i64 L[k].2) := by
  induction L generalizing k with
  | nil => simp at h
  | cons p r ih =>
    cases k with
    | zero => exact ⟨rfl, rfl⟩
    | succ k =>
      have e1 : (k + 1) * 2 = k * 2 + 1 + 1 := by omega
      rw [e1]
      exact ih k (by simpa using h)
theorem draw_at {w : World} {a : Option Addr} {L : List (Int × Int)} (h : Rd w a (cellsW L)) (k : Nat) (hk : k < L.length) :
    ∃ b o, a = some ⟨b, o, none⟩ ∧ b < w.heap.size ∧ w.cell? ⟨b, o + k * 2, none⟩ = some (.int .i64 L[k].1) ∧ w.cell? ⟨b, o + k * 2 + 1, none⟩ = some (.int .i64 L[k].2) ∧ ∀ j (hj : j < L.length), w.cell? ⟨b, o + j * 2, none⟩ = some (.int .i64 L[j].1) := by
  obtain ⟨b, o, e, hb, hr⟩ := h (by
    intro e
    have := cellsW_length L
    rw [e] at this
    simp at this
    omega)
  have hg := cellsW_get L k hk
  exact ⟨b, o, e, hb, hr _ _ hg.1, hr _ _ hg.2, fun j hj => hr _ _ (cellsW_get L j hj).1⟩
def dyW (L : List (Int × Int)) (k : Nat) : Int := (L.map fun p => p.1).getD k 0
def amW (L : List (Int × Int)) (k : Nat) : Int := (L.map fun p => p.2).getD k 0
theorem dyW_get (L : List (Int × Int)) (k : Nat) (h : k < L.length) : dyW L k = L[k].1 := by simp [dyW, h]
theorem amW_get (L : List (Int × Int)) (k : Nat) (h : k < L.length) : amW L k = L[k].2 := by simp [amW, h]
/-- Are draws as they may be? -/
def drawsB (L : List (Int × Int)) : Bool := decide (∀ k, k < L.length → (1 ≤ amW L k ∧ amW L k ≤ 1099511627776) ∧ (0 ≤ dyW L k ∧ dyW L k ≤ 1048576) ∧ (0 < k → dyW L (k - 1) ≤ dyW L k))
theorem draws_bad {L : List (Int × Int)} {k : Nat} (hk : k < L.length) (h : ¬ ((1 ≤ amW L k ∧ amW L k ≤ 1099511627776) ∧ (0 ≤ dyW L k ∧ dyW L k ≤ 1048576) ∧ (0 < k → dyW L (k - 1) ≤ dyW L k))) : drawsB L = false := by
  unfold drawsB
  rw [decide_eq_false_iff_not]
  exact fun h2 => h (h2 k hk)

set_option maxRecDepth 100000 in
set_option maxHeartbeats 3200000 in
theorem c_dright (a : Option Addr) (n c : Nat) (L : List (Int × Int)) (w : World) (hn : L.length = n) (hm : n ≤ 9223372036854775807) (hr : Rd w a (cellsW L)) :
    Calls Try.prog 100 #[.slice a n c] w fun e w' => e = .returned (.bool (drawsB L)) ∧ Below w.heap.size w w' := by
  have HR := Lib.hid hr
  have HN := Lib.hid hn
  have HW := Lib.hid (fun n lo hi w => c_pwithin n lo hi w)
  have HD := Lib.hid (fun n w => c_pday n w)
  clear hr hn
  go_enter Try.func100, Try.ntmps100
  go_wp2
  go_loopw [7] (fun x wr => ∃ k : Nat, x = .int .i64 k ∧ k ≤ n ∧ Hid (∀ j, j < k → (1 ≤ amW L j ∧ amW L j ≤ 1099511627776) ∧ (0 ≤ dyW L j ∧ dyW L j ≤ 1048576) ∧ (0 < j → dyW L (j - 1) ≤ dyW L j)) ∧ Hid (Below w.heap.size w wr)) (fun x _ => n - (intOf x).toNat)
  case atStart => exact ⟨0, rfl, by omega, (by intro j hj; omega), Below.refl _ _⟩
  case round =>
    obtain ⟨k, rfl, hk, hA, hB⟩ := hrel
    by_cases hlt : k < n
    · have hkL : k < L.length := by rw [HN.out]; exact hlt
      obtain ⟨b, o, rfl, hb, c0, c1, hall⟩ := draw_at (HR.out.below hB.out) k hkL
      rw [← dyW_get L k hkL] at c0
      rw [← amW_get L k hkL] at c1
      have HBad := Lib.hid (fun h => draws_bad hkL h)
      have hz := hB.out.size
      have HBw := Lib.hid (hB.out.alloc hz (.cells #[.int .i64 (dyW L k), .int .i64 (amW L k)] 149))
      by_cases ha : 1 ≤ amW L k ∧ amW L k ≤ 1099511627776
      · have ta := wB_of ha
        by_cases hd : 0 ≤ dyW L k ∧ dyW L k ≤ 1048576
        · have td := wB_of hd
          rcases Nat.eq_zero_or_pos k with hk0 | hk0
          · subst hk0
            have HA := Lib.hid (show ∀ j, j < 0 + 1 → (1 ≤ amW L j ∧ amW L j ≤ 1099511627776) ∧ (0 ≤ dyW L j ∧ dyW L j ≤ 1048576) ∧ (0 < j → dyW L (j - 1) ≤ dyW L j) from fun j hj => by
              obtain rfl : j = 0 := by omega
              exact ⟨ha, hd, fun h => by omega⟩)
            clear hall HBad hA
            generalize amW L 0 = am at *
            generalize dyW L 0 = dy at *
            simp only [Nat.zero_mul, Nat.add_zero] at c0 c1
            go_wp2
            go_quiet ((first | (go_at_call 91; first | exact quiet_left0 (HW.out _ _ _ _) | exact quiet_left1 (HW.out _ _ _ _)) | (go_at_call 92; first | exact quiet_left0 (HD.out _ _) | exact quiet_left1 (HD.out _ _))))
            go_wp2
            go_roundw
            case rel => exact ⟨0 + 1, by go_num, by omega, HA.out, below_drewN HBw.out _⟩
            case measure => simp [intOf]; omega
          · obtain ⟨q, rfl⟩ : ∃ q, k = q + 1 := ⟨k - 1, by omega⟩
            have hqL : q < L.length := by omega
            have cq := hall q hqL
            rw [← dyW_get L q hqL] at cq
            have hqn : q < n := by omega
            have hqi : (q : Int) < n := by omega
            have ew : IntKind.i64.wrap (((q + 1 : Nat) : Int) - 1) = (q : Int) := by
              have e3 : ((q + 1 : Nat) : Int) - 1 = (q : Int) := by omega
              rw [e3]; exact IntWalk.i64_in _ (by omega)
            have ew2 : IntKind.i64.wrap ((q : Int) + 1 - 1) = (q : Int) := by
              have e3 : (q : Int) + 1 - 1 = (q : Int) := by omega
              rw [e3]; exact IntWalk.i64_in _ (by omega)
            have hp0 : decide ((0 : Int) < ((q + 1 : Nat) : Int)) = true := by first | (simp; done) | (simp; omega)
            by_cases hle : dyW L q ≤ dyW L (q + 1)
            · have HA := Lib.hid (show ∀ j, j < q + 1 + 1 → (1 ≤ amW L j ∧ amW L j ≤ 1099511627776) ∧ (0 ≤ dyW L j ∧ dyW L j ≤ 1048576) ∧ (0 < j → dyW L (j - 1) ≤ dyW L j) from fun j hj => by
                rcases Nat.lt_or_ge j (q + 1) with h | h
                · exact hA.out j h
                · obtain rfl : j = q + 1 := by omega
                  exact ⟨ha, hd, fun _ => hle⟩)
              clear hall HBad hA
              generalize amW L (q + 1) = am at *
              generalize dyW L (q + 1) = dy at *
              generalize dyW L q = py at *
              have t1 : decide (dy < py) = false := by simp; omega
              go_wp2
              go_quiet ((first | (go_at_call 91; first | exact quiet_left0 (HW.out _ _ _ _) | exact quiet_left1 (HW.out _ _ _ _)) | (go_at_call 92; first | exact quiet_left0 (HD.out _ _) | exact quiet_left1 (HD.out _ _))))
              go_wp2
              go_roundw
              case rel => exact ⟨q + 1 + 1, by go_num, by omega, HA.out, below_drewN HBw.out _⟩
              case measure => simp [intOf]; omega
            · have HF := Lib.hid (show drawsB L = false from HBad.out fun h => hle (h.2.2 (by omega)))
              clear hall HBad hA
              generalize amW L (q + 1) = am at *
              generalize dyW L (q + 1) = dy at *
              generalize dyW L q = py at *
              have t1 : decide (dy < py) = true := by simp; omega
              go_wp2
              go_quiet ((first | (go_at_call 91; first | exact quiet_left0 (HW.out _ _ _ _) | exact quiet_left1 (HW.out _ _ _ _)) | (go_at_call 92; first | exact quiet_left0 (HD.out _ _) | exact quiet_left1 (HD.out _ _))))
              go_wp2
              go_ret
              exact ⟨ret_b HF.out.symm, below_drewN HBw.out _⟩
        · have td := wB_off hd
          have HF := Lib.hid (show drawsB L = false from HBad.out fun h => hd h.2.1)
          clear hall HBad hA hd
          generalize amW L k = am at *
          generalize dyW L k = dy at *
          go_wp2
          go_quiet ((first | (go_at_call 91; first | exact quiet_left0 (HW.out _ _ _ _) | exact quiet_left1 (HW.out _ _ _ _)) | (go_at_call 92; first | exact quiet_left0 (HD.out _ _) | exact quiet_left1 (HD.out _ _))))
          go_wp2
          go_ret
          exact ⟨ret_b HF.out.symm, below_drewN HBw.out _⟩
      · have ta := wB_off ha
        have HF := Lib.hid (show drawsB L = false from HBad.out fun h => ha h.1)
        clear hall HBad hA ha
        generalize amW L k = am at *
        generalize dyW L k = dy at *
        go_wp2
        go_quiet ((first | (go_at_call 91; first | exact quiet_left0 (HW.out _ _ _ _) | exact quiet_left1 (HW.out _ _ _ _)) | (go_at_call 92; first | exact quiet_left0 (HD.out _ _) | exact quiet_left1 (HD.out _ _))))
        go_wp2
        go_ret
        exact ⟨ret_b HF.out.symm, below_drewN HBw.out _⟩
    · obtain rfl : k = n := by omega
      have HF := Lib.hid (show drawsB L = true by unfold drawsB; simp only [decide_eq_true_eq]; rw [HN.out]; exact hA.out)
      go_wp2
      go_ret
      exact ⟨ret_b HF.out.symm, hB.out⟩

end Go.Proofs.Ytbcmaaoddnaoiaa
