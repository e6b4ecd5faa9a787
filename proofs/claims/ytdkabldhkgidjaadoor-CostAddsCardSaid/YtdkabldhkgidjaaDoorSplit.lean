/-
  share.Split's contract where nothing is wrong, and the law's first words (awake).
-/
import Derived.Test.YtdkabldhkgidjaaDoorSplitX
import Derived.Test.YtdkabldhkgidjaaDoorErrNum
namespace Go.Proofs.YtdkabldhkgidjaaDoor
set_option linter.unusedVariables false
set_option linter.unusedSimpArgs false
open Go.RowKit

theorem c_split (T : Int) (a : Option Addr) (n c : Nat) (zs : List Int) (w : World) (hn : zs.length = n) (hr : Rd w a (vals .i64 zs)) (he : errS T zs = 0) :
    Calls Tryd.prog 34 #[.int .i64 T, .slice a n c] w fun e w' => ∃ b t, e = .returned (.tuple #[.slice (some ⟨b, 0, none⟩) n n, .int .i64 0]) ∧ w.heap.size ≤ b ∧ Below w.heap.size w w' ∧ Blk w' b t (rowI .i64 (partsOf T zs)) := by
  obtain ⟨h1, h2, h3, h4, h5, h6⟩ := errS_zero he
  by_cases hT : 0 < T
  · exact c_split_main T a n c zs w hn (by omega) hr he hT h2 h5 (sum_pos (fun x hx => (h5 x hx).1) (h6 hT))
  · obtain rfl : T = 0 := by omega
    refine (c_split_zero a n c zs w hn (by omega) hr he).mono ?_
    rintro e w' ⟨rfl, rfl⟩
    refine ⟨w.heap.size, 2, rfl, Nat.le_refl _, (Below.refl _ _).alloc (Nat.le_refl _) _, ?_⟩
    rw [parts_zero zs fun x hx => (h5 x hx).1, hn]
    exact Blk.new _ _ _

end Go.Proofs.YtdkabldhkgidjaaDoor
