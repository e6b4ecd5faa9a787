/-
  The comparison of share.Split's places: its walk.
-/
import Derived.Test.YtbcmaaoddnaoiaaCOr
import Derived.Test.YtbcmaaoddnaoiaaRow
import Derived.Test.YtbcmaaoddnaoiaaRows
namespace Go.Proofs.Ytbcmaaoddnaoiaa
set_option linter.unusedVariables false
set_option linter.unusedSimpArgs false
open Go.RowKit

set_option maxHeartbeats 400000 in
theorem c_isNaNI (n : Int) (w : World) : Calls Try.prog 116 #[.int .i64 n] w fun e w' => e = .returned (.bool false) ∧ w = w' := by
  go_enter Try.func116, Try.ntmps116
  go_wp2
  go_ret
  exact ⟨rfl, rfl⟩

set_option maxHeartbeats 400000 in
theorem c_cmpI (a b : Int) (w : World) : Calls Try.prog 89 #[.int .i64 a, .int .i64 b] w fun e w' => e = .returned (.int .i64 (sgn a b)) ∧ w = w' := by
  go_enter Try.func89, Try.ntmps89
  go_wp2_with (go_at_call 116; refine (c_isNaNI _ _).mono ?_; rintro e w' ⟨rfl, rfl⟩)
  all_goals (go_ret; refine ⟨ret_i ?_, rfl⟩; unfold sgn; split <;> first | rfl | omega | (split <;> first | rfl | omega))

set_option maxHeartbeats 800000 in
theorem c_split1 (w : World) (P R n : Nat) (x y : Nat) (rx ry : Int) (hx : x < n) (hy : y < n) (hn : n ≤ 4096)
    (hp : w.cell? ⟨P, 0, none⟩ = some (.slice (some ⟨R, 0, none⟩) n n)) (h1 : w.cell? ⟨R, x, none⟩ = some (.int .u64 rx)) (h2 : w.cell? ⟨R, y, none⟩ = some (.int .u64 ry)) :
    Calls Try.prog 86 #[.int .i64 x, .int .i64 y, .pointer (some ⟨P, 0, none⟩)] w fun e w' => e = .returned (.int .i64 (or2 (sgn ry rx) (sgn x y))) ∧ ∃ o, w' = (w.alloc o).drew := by
  go_enter Try.func86, Try.ntmps86
  have hix : (x : Int) < n := by omega
  have hiy : (y : Int) < n := by omega
  go_upto_region 1 with fail
  go_region_with (first | (go_at_call 88; refine (c_cmpU _ _ _).mono ?_; rintro e w' ⟨rfl, rfl⟩) | (go_at_call 89; refine (c_cmpI _ _ _).mono ?_; rintro e w' ⟨rfl, rfl⟩) | (go_at_call 87; refine (c_or (sgn ry rx) (sgn x y) _ w.heap.size (World.cell?_alloc_new _ _ _ _) (World.cell?_alloc_new _ _ _ _)).mono ?_; rintro e w' ⟨rfl, rfl⟩))
  all_goals
    go_wp2
    go_ret
    exact ⟨rfl, _, rfl⟩

end Go.Proofs.Ytbcmaaoddnaoiaa
