/-
  slices.Repeat of one number, and share.Even: their walks.
-/
import Derived.Test.YtagdibogjlmgmabSplit
import Derived.Test.YtagdibogjlmgmabEvenNum
import Derived.Test.YtagdibogjlmgmabApp
import Derived.Laws.CopyOwn
import Derived.Deep.RegionLaw
namespace Go.Proofs.Ytagdibogjlmgmab
set_option linter.unusedVariables false
set_option linter.unusedSimpArgs false
open Go.RowKit

theorem c_mulU (n : Nat) (w : World) (hn : n ≤ 4096) :
    Calls Try.prog 26 #[.int .u64 1, .int .u64 (n : Int)] w fun e w' => e = .returned (.tuple #[.int .u64 0, .int .u64 (n : Int)]) ∧ w = w' := by
  refine (Try.bits_Mul 1 n (by omega) (by omega) w).mono ?_
  rintro e w' ⟨rfl, rfl⟩
  refine ⟨?_, rfl⟩
  rw [show 1 * n / 18446744073709551616 = 0 by omega, show 1 * n % 18446744073709551616 = n by omega]
  rfl

theorem splice_one (n : Nat) (h : 1 ≤ n) : (splice (vals .i64 (List.replicate n 0)) 0 [Value.int .i64 1]).toArray = rowI .i64 (part (ones n) n 1) := by
  unfold splice rowI vals part ones
  obtain ⟨m, rfl⟩ : ∃ m, n = m + 1 := ⟨n - 1, by omega⟩
  simp [List.replicate_succ]
theorem part_ones (n m : Nat) : part (ones n) n m = List.replicate (min m n) 1 ++ List.replicate (n - m) 0 := by simp [part, ones]
theorem splice_more (n m l : Nat) (h1 : 1 ≤ m) (h : m + l ≤ n) : (splice (vals .i64 (part (ones n) n m)) m (List.replicate l (Value.int .i64 1))).toArray = rowI .i64 (part (ones n) n (m + l)) := by
  unfold splice rowI vals
  congr 1
  rw [part_ones, part_ones, Nat.min_eq_left (by omega : m ≤ n), Nat.min_eq_left h, List.length_replicate]
  simp only [List.map_append, List.map_replicate]
  rw [List.take_append_of_le_length (by simp), List.drop_append, List.take_of_length_le (by simp)]
  rw [List.drop_of_length_le (by simp), List.nil_append, List.length_replicate, List.drop_replicate, ← List.append_assoc, List.replicate_append_replicate]
  congr 2
  omega
set_option maxRecDepth 100000 in
set_option maxHeartbeats 1600000 in
theorem c_repeat (n : Nat) (c : Nat) (a : Nat) (w : World) (h1 : 1 ≤ n) (h2 : n ≤ 4096) (ha : w.cell? ⟨a, 0, none⟩ = some (.int .i64 1)) :
    Calls Try.prog 17 #[.slice (some ⟨a, 0, none⟩) 1 1, .int .i64 (n : Int)] w fun e w' => ∃ b t, e = .returned (.slice (some ⟨b, 0, none⟩) n n) ∧ w.heap.size ≤ b ∧ Below w.heap.size w w' ∧ Blk w' b t (rowI .i64 (ones n)) := by
  have hmk := mk38 n h2
  have e1 : IntKind.u64.wrap n = n := IntWalk.u64_in _ (by omega)
  go_enter Try.func17, Try.ntmps17
  have g1 : (w.alloc (.cells (zer .i64 n) 2)).heap[w.heap.size]? = some (.cells (vals .i64 (List.replicate n 0)).toArray 2 (0, 0)) := Blk.new w 2 (zer .i64 n)
  have g3 : ∀ j v, [Value.int .i64 1][j]? = some v → (w.alloc (.cells (zer .i64 n) 2)).cell? ((⟨a, 0, none⟩ : Addr).add j) = some v := fun j v hv => by
    obtain ⟨rfl, rfl⟩ : j = 0 ∧ v = .int .i64 1 := by
      rcases j with _ | j
      · exact ⟨rfl, by simpa using hv.symm⟩
      · simp at hv
    rw [add_none, World.cell?_alloc_lt _ _ _ (World.block_lt_of_cell? w _ ha)]
    exact ha
  have G1 := Lib.hid g1
  have G3 := Lib.hid g3
  have g6 : Below w.heap.size w (w.alloc (.cells (zer .i64 n) 2)) := (Below.refl _ _).alloc (Nat.le_refl _) _
  clear g1 g3
  go_wp2_with (first | (go_at_call 26; refine (c_mulU n _ h2).mono ?_; rintro e w' ⟨rfl, rfl⟩) | (refine wpList_copy_splice (o := ⟨some 33, _, _, _, _, _⟩) ?a1 (.tmp 31) (.tmp 32) 25 25 ?a2 2 ?a3 ?a4 (some ⟨w.heap.size, 0, none⟩) (some ⟨a, 0, none⟩) n n 1 1 ?a7 ?a8 w.heap.size 0 (vals .i64 (List.replicate n 0)) 2 ?a9 [.int .i64 1] ?b1 ?b2 ?b3 ?b4 w.heap.size w ?b5 ?b6 ?b7))
  case a1 => rfl
  case a2 => rfl
  case a3 => exact Try.underlying25
  case a4 => kernel_rfl
  case a7 => rfl
  case a8 => rfl
  case a9 => exact G1.out
  case b1 => show 1 = Nat.min 1 n; exact (Nat.min_eq_left h1).symm
  case b2 =>
    intro j v hv
    have := G3.out j v hv
    rwa [add_none, Nat.zero_add] at this
  case b3 => simp [vals]; omega
  case b4 => simp [Value.oneCell']
  case b5 => exact g6
  case b6 => exact Nat.le_refl _
  intro w1 hg1 hb1
  have F0 : Blk w1 w.heap.size 2 (rowI .i64 (part (ones n) n 1)) := by
    have h := hg1.out
    rw [splice_one n h1] at h
    exact h
  clear hg1
  go_wp2
  go_loopw [8] (fun x wr => ∃ m : Nat, x = .int .i64 m ∧ 1 ≤ m ∧ m ≤ n ∧ Below w.heap.size w wr ∧ Blk wr w.heap.size 2 (rowI .i64 (part (ones n) n m))) (fun x _ => n - (intOf x).toNat)
  case atStart => exact ⟨1, rfl, by omega, by omega, hb1, F0⟩
  case round =>
    obtain ⟨m, rfl, hm1, hm2, hB, hF⟩ := hrel
    clear F0 hb1
    by_cases hlt : m < n
    · have HB := Lib.hid hB
      have HF := Lib.hid hF
      clear hB hF
      have hmn : (m : Int) < n := by omega
      obtain ⟨l, hl⟩ : ∃ l, l = Nat.min m (n - m) := ⟨_, rfl⟩
      have hl1 : 1 ≤ l := by rw [hl]; exact Nat.le_min.2 ⟨hm1, by omega⟩
      have hl2 : m + l ≤ n := by have := Nat.min_le_right m (n - m); rw [hl]; show m + min m (n - m) ≤ n; omega
      have HL := Lib.hid hl
      have hcs : ∀ j v, (List.replicate l (Value.int .i64 1))[j]? = some v → wr.cell? ((⟨w.heap.size, 0, none⟩ : Addr).add j) = some v := by
        intro j v hv
        rw [List.getElem?_replicate] at hv
        split at hv
        · rename_i hj
          injection hv with hv
          subst hv
          rw [add_none, Nat.zero_add]
          have hjm : j < m := by have := Nat.min_le_left m (n - m); rw [HL.out] at hj; exact Nat.lt_of_lt_of_le hj this
          have := HF.out.cell j (rowI_get .i64 (part (ones n) n m) j (by rw [part_length _ _ _ (by simp) hm2]; omega))
          rw [this]
          have e : (part (ones n) n m).getD j 0 = 1 := by
            rw [part_ones, Nat.min_eq_left hm2]
            simp [List.getElem?_append, hjm]
          rw [e]
        · cases hv
      have HCS := Lib.hid hcs
      have hone : ∀ v ∈ List.replicate l (Value.int .i64 1), v.oneCell' = true := by
        intro v hv
        rw [List.mem_replicate] at hv
        rw [hv.2]; rfl
      have HO := Lib.hid hone
      clear hcs hl hone
      have hnm : ¬ n = m := by omega
      have HW := Lib.hid (show IntKind.i64.wrap ((m : Int) + l) = m + l from IntWalk.i64_in _ (by omega))
      go_wp2
      go_region_law ((with_reducible refine step_copy_splice (o := ⟨some 45, _, _, _, _, _⟩) ?a1 (.tmp 41) (.tmp 44) 25 25 ?a2 2 ?a3 ?a4 (some ⟨w.heap.size, m, none⟩) (some ⟨w.heap.size, 0, none⟩) (n - m) (n - m) m n ?a5 ?a6 w.heap.size m (vals .i64 (part (ones n) n m)) 2 ?a7 (List.replicate l (Value.int .i64 1)) ?a8 ?a9 ?b1 ?b2 w.heap.size w ?b3 ?b4 ?b5); (case a1 => rfl); (case a2 => rfl); (case a3 => exact Try.underlying25); (case a4 => kernel_rfl); (case a5 => (simp [go_sem, hnm]; done)); (case a6 => (simp [go_sem]; done)); (case a7 => exact HF.out.drew); (case a8 => rw [List.length_replicate]; exact HL.out); (case a9 => exact (fun _ => ⟨rfl, _, rfl, fun j v hv => (World.cell?_drew _ _).trans (HCS.out j v hv)⟩)); (case b1 => rw [List.length_replicate, vals_length, part_length _ _ _ (by simp) hm2]; exact hl2); (case b2 => exact HO.out); (case b3 => exact HB.out.drew); (case b4 => exact Nat.le_refl _); intro w4 hg4 hb4)
      all_goals
        have hg5 : Blk w4 w.heap.size 2 (rowI .i64 (part (ones n) n (m + l))) := by
          have h := hg4.out
          rw [splice_more n m l hm1 hl2] at h
          exact h
        clear hg4
        simp only [Act.put, List.setIfInBounds_toArray, List.set_cons_succ, List.set_cons_zero, List.getElem_toArray, List.getElem_cons_succ, List.getElem_cons_zero, HW.out]
        go_wp2
        go_roundw
        case rel => exact ⟨m + l, by go_num, by omega, by omega, hb4, hg5⟩
        case measure => simp [intOf]; omega
    · obtain rfl : m = n := by omega
      go_wp2
      go_ret
      rw [part_full _ _ (by simp)] at hF
      exact ⟨_, 2, rfl, Nat.le_refl _, hB, hF⟩

set_option maxHeartbeats 800000 in
theorem c_even_no (T n : Int) (w : World) (h : n < 1 ∨ (1 ≤ n ∧ 4096 < n)) :
    Calls Try.prog 9 #[.int .i64 T, .int .i64 n] w fun e w' => e = .returned (.slice none 0 0) ∧ w = w' := by
  rcases h with h | ⟨h, h2⟩
  all_goals
    go_enter Try.func9, Try.ntmps9
    go_wp2
    go_ret
    exact ⟨rfl, rfl⟩

set_option maxHeartbeats 800000 in
theorem c_even_bad (T : Int) (n : Nat) (w : World) (h1 : 1 ≤ n) (h2 : n ≤ 4096) (he : errS T (ones n) ≠ 0) :
    Calls Try.prog 9 #[.int .i64 T, .int .i64 (n : Int)] w fun e w' => e = .returned (.slice none 0 0) ∧ Below w.heap.size w w' := by
  have HE := Lib.hid he
  clear he
  go_enter Try.func9, Try.ntmps9
  go_wp2_with fail
  refine (c_repeat n 1 w.heap.size _ h1 h2 (World.cell?_alloc_new _ _ _ _)).mono ?_
  rintro e w1 ⟨b, t, rfl, hl, hb, hP⟩
  have hB := Lib.hid (Below.trans ((Below.refl w.heap.size w).alloc (Nat.le_refl _) _) (hb.mono (by simp)))
  have hS := Lib.hid (c_split_bad T (some ⟨b, 0, none⟩) n n (ones n) w1 (by simp) (by omega) (Rd.blk' hP) HE.out)
  have t1 : (errS T (ones n) != 0) = true := by simpa using HE.out
  clear HE hb hP
  generalize errS T (ones n) = E at *
  go_wp2_with fail
  refine hS.out.mono ?_
  rintro e w2 ⟨rfl, rfl⟩
  go_wp2_with fail
  go_ret
  exact ⟨rfl, hB.out⟩

set_option maxHeartbeats 800000 in
theorem c_even (T : Int) (n : Nat) (w : World) (h1 : 1 ≤ n) (h2 : n ≤ 4096) (he : errS T (ones n) = 0) :
    Calls Try.prog 9 #[.int .i64 T, .int .i64 (n : Int)] w fun e w' => ∃ b t, e = .returned (.slice (some ⟨b, 0, none⟩) n n) ∧ w.heap.size ≤ b ∧ Below w.heap.size w w' ∧ Blk w' b t (rowI .i64 (partsOf T (ones n))) := by
  have HE := Lib.hid he
  clear he
  go_enter Try.func9, Try.ntmps9
  go_wp2_with fail
  refine (c_repeat n 1 w.heap.size _ h1 h2 (World.cell?_alloc_new _ _ _ _)).mono ?_
  rintro e w1 ⟨b, t, rfl, hl, hb, hP⟩
  have hB := Lib.hid (Below.trans ((Below.refl w.heap.size w).alloc (Nat.le_refl _) _) (hb.mono (by simp)))
  have hS := Lib.hid (c_split T (some ⟨b, 0, none⟩) n n (ones n) w1 (by simp) (Rd.blk' hP) HE.out)
  clear hb hP
  go_wp2_with fail
  refine hS.out.mono ?_
  rintro e w2 ⟨b2, t2, rfl, hl2, hb2, hP2⟩
  have hP2 := Lib.hid hP2
  have hB2 := Lib.hid (hB.out.trans (hb2.mono hB.out.size))
  have hl3 : Hid (w.heap.size ≤ b2) := Lib.hid (by have := hB.out.size; omega)
  go_wp2_with fail
  go_ret
  exact ⟨_, _, rfl, hl3.out, hB2.out, hP2.out⟩

end Go.Proofs.Ytagdibogjlmgmab
