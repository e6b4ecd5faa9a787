/-
  Interests in memory; average's small functions: their walks.
-/
import Derived.Test.YtbcmaaoddnaoiaaApp
import Derived.Test.YtbcmaaoddnaoiaaRowI
import Derived.Test.YtbcmaaoddnaoiaaRows
namespace Go.Proofs.Ytbcmaaoddnaoiaa
set_option linter.unusedVariables false
set_option linter.unusedSimpArgs false
open Go.RowKit

/-- Interests as cells. -/
def cellsI : List (ByteArray × Int) → List Value
  | [] => []
  | p :: r => .string p.1 :: .int .i64 p.2 :: cellsI r
theorem cellsI_length (L : List (ByteArray × Int)) : (cellsI L).length = L.length * 2 := by
  induction L with
  | nil => rfl
  | cons p r ih => simp only [cellsI, List.length_cons, ih]; omega
theorem cellsI_get (L : List (ByteArray × Int)) (k : Nat) (h : k < L.length) : (cellsI L)[k * 2]? = some (.string L[k].1) ∧ (cellsI L)[k * 2 + 1]? = some (.int .i64 L[k].2) := by
  induction L generalizing k with
  | nil => simp at h
  | cons p r ih =>
    cases k with
    | zero => exact ⟨rfl, rfl⟩
    | succ k =>
      have e1 : (k + 1) * 2 = k * 2 + 1 + 1 := by omega
      rw [e1]
      exact ih k (by simpa using h)
theorem intr_at {w : World} {a : Option Addr} {L : List (ByteArray × Int)} (h : Rd w a (cellsI L)) (k : Nat) (hk : k < L.length) :
    ∃ b o, a = some ⟨b, o, none⟩ ∧ b < w.heap.size ∧ w.cell? ⟨b, o + k * 2, none⟩ = some (.string L[k].1) ∧ w.cell? ⟨b, o + k * 2 + 1, none⟩ = some (.int .i64 L[k].2) := by
  obtain ⟨b, o, e, hb, hr⟩ := h (by
    intro e
    have := cellsI_length L
    rw [e] at this
    simp at this
    omega)
  have hg := cellsI_get L k hk
  exact ⟨b, o, e, hb, hr _ _ hg.1, hr _ _ hg.2⟩

/-- The values. -/
def valsI (L : List (ByteArray × Int)) : List Int := L.map fun p => p.2
@[simp] theorem valsI_length (L : List (ByteArray × Int)) : (valsI L).length = L.length := by simp [valsI]
theorem valsI_take_succ (L : List (ByteArray × Int)) (k : Nat) (h : k < L.length) : valsI (L.take (k + 1)) = valsI (L.take k) ++ [L[k].2] := by
  rw [List.take_succ_eq_append_getElem h]
  unfold valsI
  rw [List.map_append]
  rfl
theorem info_i64v : (Try.prog.info? 2).map (fun i => (i.zero, i.size, i.bytes)) = some (some (.int .i64 0), 1, 8) := by kernel_rfl

set_option maxRecDepth 100000 in
set_option maxHeartbeats 1600000 in
theorem c_values (a : Option Addr) (n c : Nat) (L : List (ByteArray × Int)) (w : World) (hn : L.length = n) (hm : n ≤ 4096) (hr : Rd w a (cellsI L)) :
    Calls Try.prog 51 #[.slice a n c] w fun e w' => ∃ A' c', e = .returned (.slice A' n c') ∧ Own w' w.heap.size 2 A' n c' (vals .i64 (valsI L)) ∧ Below w.heap.size w w' := by
  obtain ⟨i0, hi, hz0, hz1, hz2⟩ := info_parts info_i64v
  have HI := Lib.hid hi
  have HZ0 := Lib.hid hz0
  have HZ1 := Lib.hid hz1
  have HZ2 := Lib.hid hz2
  have HR := Lib.hid hr
  have HN := Lib.hid hn
  clear hi hz0 hz1 hz2 hr hn
  go_enter Try.func51, Try.ntmps51
  go_wp2
  go_loopw [3, 8] (fun y x wr => ∃ (k : Nat) (A : Option Addr) (d : Nat), y = .slice A k d ∧ x = .int .i64 k ∧ k ≤ n ∧ Hid (Own wr w.heap.size 2 A k d (vals .i64 (valsI (L.take k)))) ∧ Hid (Below w.heap.size w wr)) (fun _ x _ => n - (intOf x).toNat)
  case atStart => exact ⟨0, none, 0, rfl, rfl, by omega, by show Own _ _ _ _ _ _ _; simpa [vals, valsI] using Own.nil w 2 w.heap.size, Below.refl _ _⟩
  case round =>
    obtain ⟨k, A, d, rfl, rfl, hk, hO, hB⟩ := hrel
    by_cases hlt : k < n
    · have hkz : k < L.length := by rw [HN.out]; exact hlt
      obtain ⟨b, o, rfl, hb, hc1, hc2⟩ := intr_at (HR.out.below hB.out) k hkz
      have hts := valsI_take_succ L k hkz
      have hz := hB.out.size
      generalize L[k].1 = s at *
      generalize L[k].2 = v at *
      have HTS := Lib.hid hts
      clear hts
      go_wp2_with (at_builtin; refine wpList_app _ rfl (.tmp 12) (.tmp 15) _ rfl w.heap.size 2 i0 _ 8 Try.underlying23 HI.out HZ0.out HZ1.out HZ2.out rfl A k d _ rfl ((hO.out.alloc _).alloc _) (some ⟨wr.heap.size + 1, 0, none⟩) 1 1 (vals .i64 [v]) rfl rfl (Rd.blk' (t := 2) (Blk.at _ _ _ (by simp))) (one_vals _ _) (by unfold maxLen; omega) (by omega) (by simp; omega) ?_; intro A' c' w3 hown hg hb3)
      go_roundw
      case rel =>
        refine ⟨k + 1, A', c', rfl, by go_num, by omega, ?_, ?_⟩
        · show Own _ _ _ _ _ _ _
          rw [HTS.out, ← vals_append]
          exact hown
        · exact ((hB.out.alloc hz _).alloc (by simp; omega) _).trans hb3
      case measure => simp [intOf]; omega
    · obtain rfl : k = n := by omega
      have h1 := hO.out
      rw [List.take_of_length_le (by rw [HN.out]; exact Nat.le_refl _)] at h1
      have H1 := Lib.hid h1
      clear h1 hO
      go_wp2
      go_ret
      exact ⟨A, d, rfl, H1.out, hB.out⟩

/-- May it be an amount? -/
def amtB (v : Int) : Bool := decide (0 ≤ v ∧ v ≤ 1099511627776)
set_option maxHeartbeats 400000 in
theorem c_amount (v : Int) (w : World) : Calls Try.prog 48 #[.int .i64 v] w fun e w' => e = .returned (.bool (amtB v)) ∧ w = w' := by
  unfold amtB
  go_enter Try.func48, Try.ntmps48
  go_wp2
  all_goals (go_ret; exact ⟨ret_b (Bool.eq_iff_iff.2 (by simp; try omega)), rfl⟩)

set_option maxHeartbeats 800000 in
theorem c_asum (a : Option Addr) (n c : Nat) (zs : List Int) (w : World) (hn : zs.length = n) (hm : n ≤ 4096) (hr : Rd w a (vals .i64 zs)) (hz : ∀ x ∈ zs, 0 ≤ x ∧ x ≤ 1099511627776) :
    Calls Try.prog 49 #[.slice a n c] w fun e w' => e = .returned (.int .i64 (sumL zs)) ∧ w = w' := by
  have HR := Lib.hid hr
  have HN := Lib.hid hn
  have HZ := Lib.hid hz
  clear hr hn hz
  go_enter Try.func49, Try.ntmps49
  go_wp2
  go_loop [3, 8] (fun x y => ∃ (k : Nat) (s : Int), y = .int .i64 k ∧ x = .int .i64 s ∧ k ≤ n ∧ 0 ≤ s ∧ s ≤ 1099511627776 * k ∧ Hid (s = sumL (zs.take k))) (fun _ y => n - (intOf y).toNat)
  case atStart => exact ⟨0, 0, rfl, rfl, by omega, by omega, by omega, by show _ = _; simp [sumL]⟩
  case round =>
    obtain ⟨k, s, rfl, rfl, hk, hs0, hs1, hs⟩ := hrel
    by_cases hlt : k < n
    · have hkz : k < zs.length := by rw [HN.out]; exact hlt
      obtain ⟨b, o, rfl, hb, hall, hc⟩ := HR.out.at k (by simpa using hkz)
      clear hall
      rw [vals_get .i64 zs k hkz] at hc
      have ht := sumL_take_succ' zs k hkz
      obtain ⟨z0, z1⟩ := HZ.out zs[k] (List.getElem_mem hkz)
      generalize zs[k] = x at *
      have HT := Lib.hid ht
      clear ht
      go_wp2
      go_round
      case rel => exact ⟨k + 1, s + x, by go_num, rfl, by omega, by omega, by omega, by have h1 := HT.out; have h2 := hs.out; show _ = _; omega⟩
      case measure => simp [intOf]; omega
    · obtain rfl : k = n := by omega
      have h1 := hs.out
      rw [List.take_of_length_le (by rw [HN.out]; exact Nat.le_refl _)] at h1
      have H1 := Lib.hid h1
      clear h1 hs
      go_wp2
      go_ret
      exact ⟨ret_i H1.out, rfl⟩

end Go.Proofs.Ytbcmaaoddnaoiaa
