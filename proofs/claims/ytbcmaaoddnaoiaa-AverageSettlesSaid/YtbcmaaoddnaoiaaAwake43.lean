/-
  Layer 43's first words.
-/
import Derived.Test.YtbcmaaoddnaoiaaDebts
namespace Go.Proofs.Ytbcmaaoddnaoiaa
set_option linter.unusedVariables false
set_option linter.unusedSimpArgs false
open Go.RowKit

/-- The document's interests. -/
def awL : List (ByteArray × Int) := [(⟨#[115, 104, 105, 112]⟩, 60), (⟨#[97]⟩, 30), (⟨#[98]⟩, 10)]
def awD : List (ByteArray × ByteArray × Int) := [(⟨#[115, 104, 105, 112]⟩, ⟨#[97]⟩, 12), (⟨#[98]⟩, ⟨#[97]⟩, 2)]
theorem aw43a : wholeE awL [0, 20, 0] 0 = 0 := by decide
theorem aw43b : partsOf (sumL [0, 20, 0] + 0) (valsI awL) = [12, 6, 2] := by
  have e0 : sumL [0, 20, 0] + 0 = 20 := by decide
  have e1 : valsI awL = [60, 30, 10] := by decide
  have e2 : sumL [60, 30, 10] = 100 := by decide
  have e3 : lft 20 [60, 30, 10] = 0 := by decide
  have e4 : qs 20 100 [60, 30, 10] = [12, 6, 2] := by decide
  rw [e0, e1]
  simp [partsOf, inTop, e2, e3, e4, List.range, List.range.loop]
theorem aw43c : getsOf awL [0, 20, 0] 0 = [-12, 14, -2] := by
  unfold getsOf
  rw [aw43b]
  decide
theorem aw43d : debtsOf awL [0, 20, 0] 0 = awD := by
  unfold debtsOf
  rw [aw43c]
  decide
theorem awS : ∀ p ∈ awL, p.1.size ≤ 9223372036854775807 := by decide

theorem Rd.cells {w : World} {b : Nat} {t : TypeId} {cs : Array Value} {xs : List Value} (h : Blk w b t cs) (e : cs.toList = xs) : Rd w (some ⟨b, 0, none⟩) xs := fun _ => by
  refine ⟨b, 0, rfl, h.lt, fun j v hv => ?_⟩
  rw [Nat.zero_add]
  exact h.cell j (by rw [← e] at hv; simpa using hv)

set_option maxRecDepth 100000 in
set_option maxHeartbeats 1600000 in
theorem c_awake43 (w : World) : Calls Try.prog 15 #[] w fun e w' => e = .returned (.bool true) ∧ Below w.heap.size w w' := by
  have HW := Lib.hid (fun a b w hr hb => c_whole a b 3 3 3 3 awL [0, 20, 0] 0 w rfl (by omega) hr awS rfl (by omega) hb aw43a)
  have HP := Lib.hid (fun a b w hr hb => c_pays a b 3 3 3 3 awL [0, 20, 0] 0 w rfl (by omega) hr awS rfl (by omega) hb aw43a)
  go_enter Try.func15, Try.ntmps15
  go_wp2_with fail
  refine (HW.out _ _ _ ?hr ?hb).mono ?_
  case hr => exact Rd.cells ((Blk.new _ _ _).alloc _) rfl
  case hb => exact Rd.cells (Blk.at _ _ _ (by simp)) rfl
  rintro e w1 ⟨b1, t1, A1, c1, rfl, hP1, hO1, hb1⟩
  rw [aw43b] at hP1
  rw [show subs [0, 20, 0] (partsOf (sumL [0, 20, 0] + 0) (valsI awL)) 3 = [-12, 14, -2] from aw43c] at hO1
  have hl0 := (((Blk.new w 35 #[.string ⟨#[115, 104, 105, 112]⟩, .int .i64 60, .string ⟨#[97]⟩, .int .i64 30, .string ⟨#[98]⟩, .int .i64 10]).alloc (.cells #[.int .i64 0, .int .i64 20, .int .i64 0] 2)).below hb1 (by simp; omega))
  have hB1 : Below w.heap.size w w1 := Below.trans (by go_grown) (hb1.mono (by simp; omega))
  have hz1 := hB1.size
  have H1 := Lib.hid (And.intro hP1 hO1)
  have HB1 := Lib.hid hB1
  have HL := Lib.hid hl0
  have hlt0 := hl0.lt
  clear hP1 hO1 hb1 hl0 hB1
  go_wp2_with fail
  refine (HP.out _ _ _ ?hr ?hb).mono ?_
  case hr => exact Rd.cells (HL.out.alloc _) rfl
  case hb => exact Rd.cells (Blk.at _ _ _ (by simp)) rfl
  rintro e w2 ⟨A2, c2, he, hO2, hb2⟩
  rw [aw43d] at he hO2
  rw [show awD.length = 2 from rfl] at he hO2
  subst he
  have hP2 := (H1.out.1.alloc (.cells #[.int .i64 0, .int .i64 20, .int .i64 0] 2)).below hb2 (by have := H1.out.1.lt; simp; omega)
  have hO3 := (H1.out.2.alloc (.cells #[.int .i64 0, .int .i64 20, .int .i64 0] 2)).keep hb2
  have hB2 := Below.trans (HB1.out.alloc hz1 (.cells #[.int .i64 0, .int .i64 20, .int .i64 0] 2)) (hb2.mono (by simp; omega))
  have H2 := Lib.hid (And.intro hP2 (And.intro hO3.rd hO2.rd))
  have HB2 := Lib.hid hB2
  have hz2 := hB2.size
  clear H1 HB1 HL hO2 hb2 hP2 hO3 hB2
  go_wp2_with fail
  refine (c_same _ _ 3 3 3 3 [12, 6, 2] [12, 6, 2] _ rfl rfl (by decide) (by decide) (by exact Rd.blk' (H2.out.1.alloc _)) (by exact Rd.cells (Blk.at _ _ _ (by simp)) rfl)).mono ?_
  rintro e w' ⟨rfl, q1, rfl⟩
  go_wp2_with fail
  have r1 : Rd ((w2.alloc (.cells #[.int .i64 12, .int .i64 6, .int .i64 2] 2)).alloc (.cells #[.int .i64 (-12), .int .i64 14, .int .i64 (-2)] 2)) A1 (vals .i64 [-12, 14, -2]) := (H2.out.2.1.alloc _).alloc _
  have r2 : Rd ((w2.alloc (.cells #[.int .i64 12, .int .i64 6, .int .i64 2] 2)).alloc (.cells #[.int .i64 (-12), .int .i64 14, .int .i64 (-2)] 2)) (some ⟨w2.heap.size + 1, 0, none⟩) (vals .i64 [-12, 14, -2]) := Rd.cells (Blk.at _ _ _ (by simp)) rfl
  have hc := c_same A1 (some ⟨w2.heap.size + 1, 0, none⟩) 3 c1 3 3 [-12, 14, -2] [-12, 14, -2] _ rfl rfl (by decide) (by decide) (r1.drewN q1) (r2.drewN q1)
  rw [show decide (([-12, 14, -2] : List Int) = [-12, 14, -2]) = true from by decide] at hc
  refine hc.mono ?_
  clear hc
  rintro e w' ⟨rfl, q2, rfl⟩
  clear r1 r2
  go_wp2_with fail
  have r1 : Rd (((w2.alloc (.cells #[.int .i64 12, .int .i64 6, .int .i64 2] 2)).alloc (.cells #[.int .i64 (-12), .int .i64 14, .int .i64 (-2)] 2)).alloc (.cells #[.string ⟨#[115, 104, 105, 112]⟩, .string ⟨#[97]⟩, .string ⟨#[]⟩, .int .i64 12, .string ⟨#[98]⟩, .string ⟨#[97]⟩, .string ⟨#[]⟩, .int .i64 2] 40)) A2 (cellsD awD) := ((H2.out.2.2.alloc _).alloc _).alloc _
  have r2 : Rd (((w2.alloc (.cells #[.int .i64 12, .int .i64 6, .int .i64 2] 2)).alloc (.cells #[.int .i64 (-12), .int .i64 14, .int .i64 (-2)] 2)).alloc (.cells #[.string ⟨#[115, 104, 105, 112]⟩, .string ⟨#[97]⟩, .string ⟨#[]⟩, .int .i64 12, .string ⟨#[98]⟩, .string ⟨#[97]⟩, .string ⟨#[]⟩, .int .i64 2] 40)) (some ⟨w2.heap.size + 1 + 1, 0, none⟩) (cellsD awD) := Rd.cells (Blk.at _ _ _ (by simp)) rfl
  have hc := c_rdebts A2 (some ⟨w2.heap.size + 1 + 1, 0, none⟩) 2 c2 2 awD _ rfl (by decide) (r1.drewN (q1 + q2)) (r2.drewN (q1 + q2))
  refine hc.mono ?_
  clear hc
  rintro e w' ⟨rfl, q3, rfl⟩
  go_wp2_with fail
  go_ret
  exact ⟨rfl, below_drewN (((HB2.out.alloc hz2 _).alloc (by simp; omega) _).alloc (by simp; omega) _) _⟩

end Go.Proofs.Ytbcmaaoddnaoiaa
