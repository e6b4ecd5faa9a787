/-
  The law ShareSplits: its walk.
-/
import Derived.Test.YtagdibogjlmgmaaAwake4
import Derived.Test.YtagdibogjlmgmaaApp
import Derived.Test.YtagdibogjlmgmaaRSplit
import Derived.Test.YtagdibogjlmgmaaRError
namespace Go.Proofs.Ytagdibogjlmgmaa
set_option linter.unusedVariables false
set_option linter.unusedSimpArgs false
open Go.RowKit

theorem info_i64 : (Try.prog.info? 2).map (fun i => (i.zero, i.size, i.bytes)) = some (some (.int .i64 0), 1, 8) := by kernel_rfl
theorem c_same_t (a b : Option Addr) (n c m d : Nat) (xs : List Int) (w : World) (hx : xs.length = n) (hy : xs.length = m) (hn : n ≤ 9223372036854775807) (ha : Rd w a (vals .i64 xs)) (hb : Rd w b (vals .i64 xs)) :
    Calls Try.prog 24 #[.slice a n c, .slice b m d] w fun e w' => e = .returned (.bool true) ∧ ∃ q, w' = w.drewN q := by
  have h := c_same a b n c m d xs xs w hx hy hn (by omega) ha hb
  rw [show decide (xs = xs) = true by simp] at h
  exact h

theorem errS_bd (T : Int) (zs : List Int) : 0 ≤ errS T zs ∧ errS T zs ≤ 4 := by
  unfold errS errV
  (repeat' split) <;> omega
set_option maxHeartbeats 800000 in
theorem l_splits_many (T : Int) (a : Option Addr) (n c : Nat) (w : World) (hm : n ≤ 9223372036854775807) (h : 40 < n) :
    Calls Try.prog 7 #[.int .i64 T, .slice a n c] w fun e w' => e = .returned (.bool true) ∧ Below w.heap.size w w' := by
  go_enter Try.func7, Try.ntmps7
  go_wp2_with fail
  refine (c_awake04 _).mono ?_
  rintro e w1 ⟨rfl, hb1⟩
  go_wp2_with fail
  refine (c_awake04 _).mono ?_
  rintro e w2 ⟨rfl, hb2⟩
  go_wp2_with fail
  go_ret
  exact ⟨rfl, hb1.trans (hb2.mono hb1.size)⟩

set_option maxRecDepth 100000 in
set_option maxHeartbeats 1600000 in
theorem l_splits_few (T : Int) (a : Option Addr) (n c : Nat) (zs : List Int) (w : World) (hn : zs.length = n) (hr : Rd w a (vals .i64 zs)) (h : n ≤ 40) :
    Calls Try.prog 7 #[.int .i64 T, .slice a n c] w fun e w' => e = .returned (.bool true) ∧ Below w.heap.size w w' := by
  obtain ⟨i0, hi, hz0, hz1, hz2⟩ := info_parts info_i64
  have HI := Lib.hid hi
  have HZ0 := Lib.hid hz0
  have HZ1 := Lib.hid hz1
  have HZ2 := Lib.hid hz2
  have HR := Lib.hid hr
  have HN := Lib.hid hn
  clear hi hz0 hz1 hz2 hr hn
  go_enter Try.func7, Try.ntmps7
  go_wp2_with fail
  refine (c_awake04 _).mono ?_
  rintro e w1 ⟨rfl, hb1⟩
  have hR1 := Lib.hid (HR.out.below hb1)
  have hz1 := hb1.size
  go_wp2_with (at_builtin; refine wpList_app _ rfl (.tmp 16) (.tmp 17) _ rfl w.heap.size 2 i0 _ 8 Try.underlying38 HI.out HZ0.out HZ1.out HZ2.out rfl _ 0 0 [] rfl (Own.empty _ _ _ hz1) a n c (vals .i64 zs) rfl (by simpa using HN.out) (hR1.out.alloc _) (one_vals _ _) (by unfold maxLen; omega) (by omega) (by simp; omega) ?_; intro A' c' w2 hown hg hb2)
  have hz2 := hb2.size
  have hB2 : Below w.heap.size w w2 := (hb1.alloc hz1 _).trans hb2
  have hz2' := hB2.size
  have hR2 := Lib.hid (HR.out.below hB2)
  have hO := Lib.hid (show Rd w2 A' (vals .i64 zs) from by simpa using hown.rd)
  clear hown hg hb2 hb1
  by_cases he : errS T zs = 0
  · refine (c_split T A' n c' zs w2 HN.out hO.out he).mono ?_
    rintro e w3 ⟨b3, t3, rfl, hl3, hb3, hP3⟩
    have hO3 := Lib.hid (hO.out.below hb3)
    have hR3 := Lib.hid (hR2.out.below hb3)
    have hB3 := hB2.trans (hb3.mono hz2')
    have hz3 := hB3.size
    have hP3 := Lib.hid hP3
    have he' := Lib.hid he
    clear hb3 hB2 hz2 hz2' he
    go_wp2_with fail
    refine (c_same_t A' a n c' n c zs w3 HN.out HN.out (by omega) hO3.out hR3.out).mono ?_
    rintro e w4 ⟨rfl, q, rfl⟩
    go_wp2_with fail
    refine (c_rerror T a n c zs _ HN.out (by omega) (hR3.out.drewN _)).mono ?_
    rintro e w4 ⟨rfl, rfl⟩
    rw [he'.out]
    go_wp2_with fail
    refine (c_rsplit T a n c zs _ HN.out (hR3.out.drewN _) he'.out).mono ?_
    rintro e w5 ⟨b5, t5, rfl, hl5, hb5, hP5⟩
    have hz5 := hb5.size
    go_wp2_with fail
    refine (c_same_t _ _ n n n n (partsOf T zs) _ (by simp [partsOf, HN.out]) (by simp [partsOf, HN.out]) (by omega) (by exact Rd.blk ((hP3.out.drewN _).below hb5 hP3.out.lt)) (by exact Rd.blk hP5)).mono ?_
    rintro e w6 ⟨rfl, q6, rfl⟩
    go_wp2_with fail
    go_ret
    exact ⟨rfl, below_drewN ((below_drewN hB3 q).trans (hb5.mono hz3)) _⟩
  · refine (c_split_bad T A' n c' zs w2 HN.out (by omega) hO.out he).mono ?_
    rintro e w3 ⟨rfl, rfl⟩
    have t1 : (errS T zs != 0) = true := by simpa using he
    have hE : ∀ w, Rd w a (vals .i64 zs) → Calls Try.prog 25 #[.int .i64 T, .slice a n c] w fun e w' => e = .returned (.int .i64 (errS T zs)) ∧ w = w' := fun w hr => c_rerror T a n c zs w HN.out (by omega) hr
    have HE := Lib.hid hE
    obtain ⟨e0, e1⟩ := errS_bd T zs
    clear hE he
    generalize errS T zs = E at *
    go_wp2_with fail
    refine (c_same_t A' a n c' n c zs w2 HN.out HN.out (by omega) hO.out hR2.out).mono ?_
    rintro e w4 ⟨rfl, q, rfl⟩
    go_wp2_with fail
    refine (HE.out _ (hR2.out.drewN _)).mono ?_
    rintro e w4 ⟨rfl, rfl⟩
    go_wp2_with fail
    go_ret
    exact ⟨rfl, below_drewN hB2 _⟩

theorem l_splits (T : Int) (a : Option Addr) (n c : Nat) (zs : List Int) (w : World) (hT : (Lit.int .i64 T).wf = true) (hn : zs.length = n) (hm : n ≤ 9223372036854775807) (hr : Rd w a (vals .i64 zs)) (hz : ∀ x ∈ zs, (Lit.int .i64 x).wf = true) :
    Calls Try.prog 7 #[.int .i64 T, .slice a n c] w fun e w' => e = .returned (.bool true) ∧ Below w.heap.size w w' := by
  by_cases h : n ≤ 40
  · exact l_splits_few T a n c zs w hn hr h
  · exact l_splits_many T a n c w hm (by omega)

end Go.Proofs.Ytagdibogjlmgmaa
