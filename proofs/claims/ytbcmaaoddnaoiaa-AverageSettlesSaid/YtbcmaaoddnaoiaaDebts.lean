/-
  The reference's Debts and Few, the law's few: their walks.
-/
import Derived.Test.YtbcmaaoddnaoiaaPays
import Derived.Test.YtbcmaaoddnaoiaaSame
namespace Go.Proofs.Ytbcmaaoddnaoiaa
set_option linter.unusedVariables false
set_option linter.unusedSimpArgs false
open Go.RowKit

theorem cellsD_get (O : List (ByteArray × ByteArray × Int)) (k : Nat) (h : k < O.length) : (cellsD O)[k * 4]? = some (.string O[k].1) ∧ (cellsD O)[k * 4 + 1]? = some (.string O[k].2.1) ∧ (cellsD O)[k * 4 + 2]? = some (.string ⟨#[]⟩) ∧ (cellsD O)[k * 4 + 3]? = some (.int .i64 O[k].2.2) := by
  induction O generalizing k with
  | nil => simp at h
  | cons p r ih =>
    cases k with
    | zero => exact ⟨rfl, rfl, rfl, rfl⟩
    | succ k =>
      have e1 : (k + 1) * 4 = k * 4 + 1 + 1 + 1 + 1 := by omega
      rw [e1]
      exact ih k (by simpa using h)
theorem debt_at {w : World} {a : Option Addr} {O : List (ByteArray × ByteArray × Int)} (h : Rd w a (cellsD O)) (k : Nat) (hk : k < O.length) :
    ∃ b o, a = some ⟨b, o, none⟩ ∧ b < w.heap.size ∧ w.cell? ⟨b, o + k * 4, none⟩ = some (.string O[k].1) ∧ w.cell? ⟨b, o + k * 4 + 1, none⟩ = some (.string O[k].2.1) ∧ w.cell? ⟨b, o + k * 4 + 2, none⟩ = some (.string ⟨#[]⟩) ∧ w.cell? ⟨b, o + k * 4 + 3, none⟩ = some (.int .i64 O[k].2.2) := by
  obtain ⟨b, o, e, hb, hr⟩ := h (by
    intro e
    have := cellsD_length O
    rw [e] at this
    simp at this
    omega)
  obtain ⟨g1, g2, g3, g4⟩ := cellsD_get O k hk
  exact ⟨b, o, e, hb, hr _ _ g1, hr _ _ g2, hr _ _ g3, hr _ _ g4⟩

set_option maxRecDepth 100000 in
set_option maxHeartbeats 1600000 in
theorem c_rdebts (a b : Option Addr) (n c d : Nat) (O : List (ByteArray × ByteArray × Int)) (w : World) (hn : O.length = n) (hm : n ≤ 9223372036854775807) (ha : Rd w a (cellsD O)) (hb : Rd w b (cellsD O)) :
    Calls Try.prog 19 #[.slice a n c, .slice b n d] w fun e w' => e = .returned (.bool true) ∧ ∃ q, w' = w.drewN q := by
  have HN := Lib.hid hn
  have HA := Lib.hid ha
  have HB := Lib.hid hb
  clear hn ha hb
  go_enter Try.func19, Try.ntmps19
  go_wp2
  go_loopw [5] (fun i wr => ∃ k : Nat, i = .int .i64 k ∧ k ≤ n ∧ ∃ q, wr = w.drewN q) (fun i _ => n - (intOf i).toNat)
  case atStart => exact ⟨0, rfl, by omega, 0, rfl⟩
  case round =>
    obtain ⟨k, rfl, hk, q, rfl⟩ := hrel
    by_cases hlt : k < n
    · have hkO : k < O.length := by rw [HN.out]; exact hlt
      obtain ⟨b1, o1, rfl, hb1, c1, c2, c3, c4⟩ := debt_at HA.out k hkO
      obtain ⟨b2, o2, rfl, hb2, d1, d2, d3, d4⟩ := debt_at HB.out k hkO
      generalize O[k].1 = s1 at *
      generalize O[k].2.1 = s2 at *
      generalize O[k].2.2 = v at *
      go_wp2
      go_region
      all_goals
        go_wp2
        go_round
        case rel => exact ⟨k + 1, by go_num, by omega, q + 1, rfl⟩
        case measure => simp [intOf]; omega
    · obtain rfl : k = n := by omega
      go_wp2
      go_ret
      exact ⟨rfl, q, rfl⟩

/-- Are interests few, and their names short? -/
def fewI (L : List (ByteArray × Int)) : Bool := decide (∀ i, i < L.length → i ≤ 30 ∧ (L.getD i (⟨#[]⟩, 0)).1.size ≤ 60)
theorem fewI_false {L : List (ByteArray × Int)} {k : Nat} (hk : k < L.length) (h : ¬ (k ≤ 30 ∧ (L.getD k (⟨#[]⟩, 0)).1.size ≤ 60)) : fewI L = false := by
  unfold fewI
  simp only [decide_eq_false_iff_not]
  intro h2
  exact h (h2 k hk)
set_option maxHeartbeats 800000 in
theorem c_rfew (a : Option Addr) (n c : Nat) (L : List (ByteArray × Int)) (w : World) (hn : L.length = n) (hm : n ≤ 9223372036854775807) (hr : Rd w a (cellsI L)) (hs : ∀ p ∈ L, p.1.size ≤ 9223372036854775807) :
    Calls Try.prog 44 #[.slice a n c] w fun e w' => e = .returned (.bool (fewI L)) ∧ Below w.heap.size w w' := by
  have HR := Lib.hid hr
  have HN := Lib.hid hn
  have HSz := Lib.hid hs
  clear hr hn hs
  go_enter Try.func44, Try.ntmps44
  go_wp2
  go_loopw [3] (fun i wr => ∃ k : Nat, i = .int .i64 k ∧ k ≤ n ∧ Hid (∀ i, i < k → i ≤ 30 ∧ (L.getD i (⟨#[]⟩, 0)).1.size ≤ 60) ∧ Hid (Below w.heap.size w wr)) (fun i _ => n - (intOf i).toNat)
  case atStart => exact ⟨0, rfl, by omega, by intro i hi; omega, Below.refl _ _⟩
  case round =>
    obtain ⟨k, rfl, hk, hA, hB⟩ := hrel
    by_cases hlt : k < n
    · have hkL : k < L.length := by rw [HN.out]; exact hlt
      obtain ⟨b, o, rfl, hb, hc1, hc2⟩ := intr_at (HR.out.below hB.out) k hkL
      have hsz := HSz.out _ (List.getElem_mem hkL)
      have hz := hB.out.size
      have hget : L.getD k (⟨#[]⟩, 0) = L[k] := by simp [hkL]
      by_cases hbad : k ≤ 30 ∧ L[k].1.size ≤ 60
      · have hAll := Lib.hid (show ∀ i, i < k + 1 → i ≤ 30 ∧ (L.getD i (⟨#[]⟩, 0)).1.size ≤ 60 from fun i hi => by
          rcases Nat.lt_or_ge i k with h | h
          · exact hA.out i h
          · obtain rfl : i = k := by omega
            rw [hget]; exact hbad)
        obtain ⟨t1, t2⟩ := hbad
        clear hget
        generalize L[k].1 = s at *
        generalize L[k].2 = v at *
        go_wp2
        go_roundw
        case rel => exact ⟨k + 1, by go_num, by omega, hAll, hB.out⟩
        case measure => simp [intOf]; omega
      · have hF := Lib.hid (fewI_false hkL (by rw [hget]; exact hbad))
        clear hget
        generalize L[k].1 = s at *
        generalize L[k].2 = v at *
        by_cases h30 : k ≤ 30
        · have t2 : ¬ s.size ≤ 60 := fun h => hbad ⟨h30, h⟩
          clear hbad
          go_wp2
          go_ret
          exact ⟨ret_b hF.out.symm, hB.out⟩
        · clear hbad
          go_wp2
          go_ret
          exact ⟨ret_b hF.out.symm, hB.out⟩
    · obtain rfl : k = n := by omega
      have hF := Lib.hid (show fewI L = true from by unfold fewI; simp only [decide_eq_true_eq]; rw [HN.out]; exact hA.out)
      go_wp2
      go_ret
      exact ⟨ret_b hF.out.symm, hB.out⟩

/-- Is there not too much? -/
def fewG (L : List (ByteArray × Int)) (m : Nat) : Bool := fewI L && decide (m ≤ 60)
set_option maxHeartbeats 800000 in
theorem c_few (a b : Option Addr) (n c m d : Nat) (L : List (ByteArray × Int)) (w : World) (hn : L.length = n) (hm : n ≤ 9223372036854775807) (hgm : m ≤ 9223372036854775807) (hr : Rd w a (cellsI L)) (hs : ∀ p ∈ L, p.1.size ≤ 9223372036854775807) :
    Calls Try.prog 16 #[.slice a n c, .slice b m d] w fun e w' => e = .returned (.bool (fewG L m)) ∧ Below w.heap.size w w' := by
  have HF := Lib.hid (c_rfew a n c L w hn hm hr hs)
  clear hr hn hs
  unfold fewG
  generalize fewI L = f at *
  cases f <;> (
    go_enter Try.func16, Try.ntmps16
    go_wp2_with fail
    refine HF.out.mono ?_
    rintro e w1 ⟨rfl, hb1⟩
    have HB := Lib.hid hb1
    clear hb1
    go_wp2_with fail
    all_goals (
      go_ret
      exact ⟨ret_b (by simp <;> omega), HB.out⟩))

end Go.Proofs.Ytbcmaaoddnaoiaa
