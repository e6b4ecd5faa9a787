/-
  The comparison of share.Split's places: its walk.
-/
import Derived.Test.YtdkabldhkgidjaaDoorCOr
import Derived.Test.YtdkabldhkgidjaaDoorRow
import Derived.Test.YtdkabldhkgidjaaDoorRows
namespace Go.Proofs.YtdkabldhkgidjaaDoor
set_option linter.unusedVariables false
set_option linter.unusedSimpArgs false
open Go.RowKit

set_option maxHeartbeats 400000 in
theorem c_isNaNI (n : Int) (w : World) : Calls Tryd.prog 71 #[.int .i64 n] w fun e w' => e = .returned (.bool false) ∧ w = w' := by
  go_enter Tryd.func71, Tryd.ntmps71
  go_wp2
  go_ret
  exact ⟨rfl, rfl⟩

set_option maxHeartbeats 400000 in
theorem c_cmpI (a b : Int) (w : World) : Calls Tryd.prog 54 #[.int .i64 a, .int .i64 b] w fun e w' => e = .returned (.int .i64 (sgn a b)) ∧ w = w' := by
  go_enter Tryd.func54, Tryd.ntmps54
  go_wp2_with (go_at_call 71; refine (c_isNaNI _ _).mono ?_; rintro e w' ⟨rfl, rfl⟩)
  all_goals (go_ret; refine ⟨ret_i ?_, rfl⟩; unfold sgn; split <;> first | rfl | omega | (split <;> first | rfl | omega))

set_option maxHeartbeats 800000 in
theorem c_split1 (w : World) (P R n : Nat) (x y : Nat) (rx ry : Int) (hx : x < n) (hy : y < n) (hn : n ≤ 4096)
    (hp : w.cell? ⟨P, 0, none⟩ = some (.slice (some ⟨R, 0, none⟩) n n)) (h1 : w.cell? ⟨R, x, none⟩ = some (.int .u64 rx)) (h2 : w.cell? ⟨R, y, none⟩ = some (.int .u64 ry)) :
    Calls Tryd.prog 51 #[.int .i64 x, .int .i64 y, .pointer (some ⟨P, 0, none⟩)] w fun e w' => e = .returned (.int .i64 (or2 (sgn ry rx) (sgn x y))) ∧ ∃ o, w' = (w.alloc o).drew := by
  go_enter Tryd.func51, Tryd.ntmps51
  have hix : (x : Int) < n := by omega
  have hiy : (y : Int) < n := by omega
  go_upto_region 1 with fail
  go_region_with (first | (go_at_call 53; refine (c_cmpU _ _ _).mono ?_; rintro e w' ⟨rfl, rfl⟩) | (go_at_call 54; refine (c_cmpI _ _ _).mono ?_; rintro e w' ⟨rfl, rfl⟩) | (go_at_call 52; refine (c_or (sgn ry rx) (sgn x y) _ w.heap.size (World.cell?_alloc_new _ _ _ _) (World.cell?_alloc_new _ _ _ _)).mono ?_; rintro e w' ⟨rfl, rfl⟩))
  all_goals
    go_wp2
    go_ret
    exact ⟨rfl, _, rfl⟩

end Go.Proofs.YtdkabldhkgidjaaDoor
