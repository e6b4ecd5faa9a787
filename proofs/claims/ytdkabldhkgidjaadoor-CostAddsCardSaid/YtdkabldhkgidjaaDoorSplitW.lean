/-
  share.Split: its walk.
-/
import Derived.Test.YtdkabldhkgidjaaDoorSort2
import Derived.Test.YtdkabldhkgidjaaDoorWrong
import Derived.Test.YtdkabldhkgidjaaDoorDivW
import Derived.Test.YtdkabldhkgidjaaDoorSplitMk
namespace Go.Proofs.YtdkabldhkgidjaaDoor
set_option linter.unusedVariables false
set_option linter.unusedSimpArgs false
open Go.RowKit

theorem c_wrong (T : Int) (a : Option Addr) (n c : Nat) (zs : List Int) (w : World) (hn : zs.length = n) (hm : n ≤ 9223372036854775807) (hr : Rd w a (vals .i64 zs)) :
    Calls Tryd.prog 47 #[.int .i64 T, .slice a n c] w fun e w' => e = .returned (.int .i64 (errS T zs)) ∧ w = w' := by
  subst hn
  exact c_wrong0 T a _ c zs w rfl hm hr _ _ _ rfl rfl rfl

set_option maxHeartbeats 800000 in
theorem c_split_bad (T : Int) (a : Option Addr) (n c : Nat) (zs : List Int) (w : World) (hn : zs.length = n) (hm : n ≤ 9223372036854775807) (hr : Rd w a (vals .i64 zs)) (he : errS T zs ≠ 0) :
    Calls Tryd.prog 34 #[.int .i64 T, .slice a n c] w fun e w' => e = .returned (.tuple #[.slice none 0 0, .int .i64 (errS T zs)]) ∧ w = w' := by
  have h := c_wrong T a n c zs w hn hm hr
  have t1 : (errS T zs != 0) = true := by simpa using he
  have t2 : (errS T zs == 0) = false := by simpa using he
  clear he hr hn
  generalize errS T zs = E at *
  go_enter Tryd.func34, Tryd.ntmps34
  go_wp2_with (go_at_call 47; refine h.mono ?_; rintro e w' ⟨rfl, rfl⟩)
  exact bodyPost_ret (v := .tuple #[.slice none 0 0, .int .i64 E]) (by simp [results, Tryd.results34, go_sem]) rfl ⟨rfl, rfl⟩

set_option maxHeartbeats 800000 in
theorem c_split_zero (a : Option Addr) (n c : Nat) (zs : List Int) (w : World) (hn : zs.length = n) (hm : n ≤ 4096) (hr : Rd w a (vals .i64 zs)) (he : errS 0 zs = 0) :
    Calls Tryd.prog 34 #[.int .i64 0, .slice a n c] w fun e w' => e = .returned (.tuple #[.slice (some ⟨w.heap.size, 0, none⟩) n n, .int .i64 0]) ∧ w' = w.alloc (.cells (zer .i64 n) 2) := by
  have h := c_wrong 0 a n c zs w hn (by omega) hr
  rw [he] at h
  have hmk := mk38 n hm
  clear he hr hn
  go_enter Tryd.func34, Tryd.ntmps34
  go_wp2_with (go_at_call 47; refine h.mono ?_; rintro e w' ⟨rfl, rfl⟩)
  exact bodyPost_ret (v := .tuple #[.slice (some ⟨w.heap.size, 0, none⟩) n n, .int .i64 0]) (by simp [results, Tryd.results34, go_sem]) rfl ⟨rfl, rfl⟩

end Go.Proofs.YtdkabldhkgidjaaDoor
