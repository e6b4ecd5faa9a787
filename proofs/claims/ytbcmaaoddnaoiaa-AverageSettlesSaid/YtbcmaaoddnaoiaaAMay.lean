/-
  average.may: its walk.
-/
import Derived.Test.YtbcmaaoddnaoiaaIntr
import Derived.Test.YtbcmaaoddnaoiaaName
import Derived.Test.YtbcmaaoddnaoiaaSetB
namespace Go.Proofs.Ytbcmaaoddnaoiaa
set_option linter.unusedVariables false
set_option linter.unusedSimpArgs false
open Go.RowKit

/-- May interests be, behind others of these names? -/
def mayGo : List (List UInt8) → List (ByteArray × Int) → Bool
  | _, [] => true
  | S, p :: r => nameB p.1 && !(decide (p.1.data.toList ∈ S)) && amtB p.2 && mayGo (S ++ [p.1.data.toList]) r
def mayB (L : List (ByteArray × Int)) : Bool := mayGo [] L && decide (1 ≤ L.length ∧ L.length ≤ 4096)
def namesI (L : List (ByteArray × Int)) : List (List UInt8) := L.map fun p => p.1.data.toList
theorem namesI_take_succ (L : List (ByteArray × Int)) (k : Nat) (h : k < L.length) : namesI (L.take (k + 1)) = namesI (L.take k) ++ [L[k].1.data.toList] := by
  rw [List.take_succ_eq_append_getElem h]
  unfold namesI
  rw [List.map_append]
  rfl
theorem mayGo_step (L : List (ByteArray × Int)) (k : Nat) (h : k < L.length) :
    mayGo (namesI (L.take k)) (L.drop k) = (nameB L[k].1 && !(decide (L[k].1.data.toList ∈ namesI (L.take k))) && amtB L[k].2 && mayGo (namesI (L.take (k + 1))) (L.drop (k + 1))) := by
  rw [List.drop_eq_getElem_cons h, namesI_take_succ L k h]
  rfl
theorem nameB_size {s : ByteArray} (h : nameB s = true) : 1 ≤ s.size ∧ s.size ≤ 16 := by
  unfold nameB at h
  simp only [Bool.and_eq_true, decide_eq_true_eq] at h
  exact h.1
theorem zero_bool (w : World) : (zeroValue 4).run Try.prog w = .ok (.bool false) w := by kernel_rfl

set_option maxRecDepth 100000 in
set_option maxHeartbeats 1600000 in
theorem c_amay (a : Option Addr) (n c : Nat) (L : List (ByteArray × Int)) (w : World) (hn : L.length = n) (hm : n ≤ 1048576) (hr : Rd w a (cellsI L)) (hs : ∀ p ∈ L, p.1.size ≤ 9223372036854775807) :
    Calls Try.prog 52 #[.slice a n c] w fun e w' => e = .returned (.bool (mayB L)) ∧ Below w.heap.size w w' := by
  have HR := Lib.hid hr
  have HN := Lib.hid hn
  have HSz := Lib.hid hs
  clear hr hn hs
  have hmm := @run_makeMap Try.prog
  go_enter Try.func52, Try.ntmps52
  go_wp2
  clear hmm
  go_loopw [9] (fun x wr => ∃ (k : Nat), x = .int .i64 k ∧ k ≤ n ∧ Hid (Seen Try.prog 9 4 wr w.heap.size k (namesI (L.take k))) ∧ Hid (Below w.heap.size w wr) ∧ Hid (mayGo [] L = mayGo (namesI (L.take k)) (L.drop k))) (fun x _ => n - (intOf x).toNat)
  case atStart => exact ⟨0, rfl, by omega, Seen.made w, (Below.refl _ _).alloc (Nat.le_refl _) _, by show _ = _; simp [namesI]⟩
  case round =>
    obtain ⟨k, rfl, hk, hS, hB, hG⟩ := hrel
    by_cases hlt : k < n
    · have hkz : k < L.length := by rw [HN.out]; exact hlt
      obtain ⟨b, o, rfl, hb, hc1, hc2⟩ := intr_at (HR.out.below hB.out) k hkz
      have hst := mayGo_step L k hkz
      rw [← hG.out] at hst
      have hts := namesI_take_succ L k hkz
      have hsz := HSz.out L[k] (List.getElem_mem hkz)
      have hz := hB.out.size
      generalize L[k].1 = s at *
      generalize L[k].2 = v at *
      have HTS := Lib.hid hts
      have HST := Lib.hid hst
      clear hts hst
      have H1 := Lib.hid (fun w => c_mname s w hsz)
      have H2 := Lib.hid (fun w => c_amount v w)
      have hfalse : nameB s = false ∨ decide (s.data.toList ∈ namesI (L.take k)) = true ∨ amtB v = false → mayB L = false := by
        intro h
        unfold mayB
        rw [HST.out]
        rcases h with h | h | h <;> rw [h] <;> simp
      have HF := Lib.hid hfalse
      clear hfalse
      cases h1 : nameB s
      · have HF1 := Lib.hid (HF.out (.inl h1))
        rw [h1] at H1
        clear h1
        go_wp2_with (go_at_call 81; refine (H1.out _).mono ?_; rintro e w' ⟨rfl, rfl⟩)
        go_ret
        exact ⟨ret_b HF1.out.symm, hB.out.alloc hz _⟩
      · have hs16 : s.size ≤ 16 := (nameB_size h1).2
        have hlook := (hS.out.alloc (.cells #[.string s, .int .i64 v] 35)).look (t := 125) Try.underlying9 Try.underlying125 Try.underlying4 (zero_bool _) (s := s) (by unfold maxLen; omega)
        cases h2 : decide (s.data.toList ∈ namesI (L.take k))
        · rw [h2] at hlook
          cases h3 : amtB v
          · have HF1 := Lib.hid (HF.out (.inr (.inr h3)))
            rw [h1] at H1
            rw [h3] at H2
            clear h1 h2 h3
            go_wp2_with (first | (go_at_call 81; refine (H1.out _).mono ?_; rintro e w' ⟨rfl, rfl⟩) | (go_at_call 48; refine (H2.out _).mono ?_; rintro e w' ⟨rfl, rfl⟩))
            go_ret
            exact ⟨ret_b HF1.out.symm, hB.out.alloc hz _⟩
          · rw [h1, h2, h3] at HST
            rw [h1] at H1
            rw [h3] at H2
            clear h1 h2 h3
            go_wp2_with (first | (go_at_call 81; refine (H1.out _).mono ?_; rintro e w' ⟨rfl, rfl⟩) | (go_at_call 48; refine (H2.out _).mono ?_; rintro e w' ⟨rfl, rfl⟩) | (at_mapUpdate; refine wpList_put_seen rfl (.tmp 29) (.tmp 31) (.const (.bool true)) 125 rfl (hS.out.alloc _) Try.underlying9 Try.underlying125 Try.underlying4 (by unfold maxLen; omega) (s := s) (by unfold maxLen; omega) rfl rfl rfl ?_; intro w3 hS3 hg3))
            go_roundw
            case rel =>
              refine ⟨k + 1, by go_num, by omega, ?_, ?_, ?_⟩
              · show Seen _ _ _ _ _ _ _
                rw [HTS.out]
                exact hS3
              · exact (hB.out.alloc hz _).trans (grown_below hg3 (by simp; omega) (Nat.le_refl _))
              · show _ = _
                rw [HST.out]; simp
            case measure => simp [intOf]; omega
        · have HF1 := Lib.hid (HF.out (.inr (.inl h2)))
          rw [h2] at hlook
          rw [h1] at H1
          clear h1 h2
          go_wp2_with (go_at_call 81; refine (H1.out _).mono ?_; rintro e w' ⟨rfl, rfl⟩)
          go_ret
          exact ⟨ret_b HF1.out.symm, hB.out.alloc hz _⟩
    · obtain rfl : k = n := by omega
      have h1 := hG.out
      rw [List.drop_of_length_le (by rw [HN.out]; exact Nat.le_refl _)] at h1
      have hmay : mayB L = decide (1 ≤ k ∧ k ≤ 4096) := by unfold mayB; rw [h1, HN.out]; simp [mayGo]
      have HM := Lib.hid hmay
      clear h1 hG hmay hS
      go_wp2
      all_goals
        go_ret
        exact ⟨ret_b (HM.out.trans (Bool.eq_iff_iff.2 (by simp; try omega))).symm, hB.out⟩

end Go.Proofs.Ytbcmaaoddnaoiaa
