/-
  share.Split's memory: rows that are filled place by place. No program.
-/
import Derived.Test.YtdkabldhkgidjaaDoorRowI
namespace Go.Proofs.YtdkabldhkgidjaaDoor
set_option linter.unusedVariables false
set_option linter.unusedSimpArgs false
open Go.RowKit

/-- A list of n numbers, filled up to place i. -/
def part (l : List Int) (n i : Nat) : List Int := l.take i ++ List.replicate (n - i) 0
theorem part_zero (l : List Int) (n : Nat) : part l n 0 = List.replicate n 0 := by simp [part]
theorem part_full (l : List Int) (n : Nat) (h : l.length = n) : part l n n = l := by simp [part, ← h]
theorem part_length (l : List Int) (n i : Nat) (h : l.length = n) (hi : i ≤ n) : (part l n i).length = n := by simp [part]; omega
theorem part_set (l : List Int) (n i : Nat) (h : l.length = n) (hi : i < n) : (part l n i).set i (l.getD i 0) = part l n (i + 1) := by
  apply List.ext_getElem
  · simp [part]; omega
  · intro j h1 h2
    simp only [part, List.getElem_set, List.getElem_append, List.length_take, List.getElem_take, List.getElem_replicate]
    have e : min i l.length = i := by omega
    have e2 : min (i + 1) l.length = i + 1 := by omega
    simp only [e, e2]
    by_cases hj : i = j
    · subst hj
      simp [h, hi]
    · rw [if_neg hj]
      by_cases hj2 : j < i
      · rw [dif_pos hj2, dif_pos (by omega)]
      · rw [dif_neg hj2, dif_neg (by omega)]
theorem rowI_set (k : IntKind) (l : List Int) (i : Nat) (x : Int) : (rowI k l).setIfInBounds i (.int k x) = rowI k (l.set i x) := by
  simp [rowI, List.map_set]
/-- The numbers of the places. -/
def iota (n : Nat) : List Int := (List.range n).map fun i : Nat => (i : Int)
@[simp] theorem iota_length (n : Nat) : (iota n).length = n := by simp [iota]
theorem iota_get (n i : Nat) (h : i < n) : (iota n).getD i 0 = i := by simp [iota, h]
theorem rowN_iota (n : Nat) : rowN (List.range n) = rowI .i64 (iota n) := by simp [rowN, rowI, iota]

/-- Four blocks of the call's own, one behind the other, all else as it was. -/
structure Four (w wr : World) (n : Nat) (p r l : List Int) : Prop where
  below : Below w.heap.size w wr
  size : w.heap.size + 3 < wr.heap.size
  parts : Blk wr w.heap.size 2 (rowI .i64 p)
  rests : Blk wr (w.heap.size + 1) 81 (rowI .u64 r)
  box : Blk wr (w.heap.size + 2) 82 #[.slice (some ⟨w.heap.size + 1, 0, none⟩) n n]
  places : Blk wr (w.heap.size + 3) 3 (rowI .i64 l)
section
variable {w wr : World} {n : Nat} {p r l : List Int}
theorem Four.drewN (h : Four w wr n p r l) (k : Nat) : Four w (wr.drewN k) n p r l := ⟨below_drewN h.below _, h.size, h.parts, h.rests, h.box, h.places⟩
theorem Four.setP (h : Four w wr n p r l) (i : Nat) (x : Int) : Four w (wr.setCell ⟨w.heap.size, i, none⟩ (.int .i64 x)) n (p.set i x) r l :=
  ⟨h.below.setCell (Nat.le_refl _) _, by simpa [World.setCell] using h.size, by rw [← rowI_set]; exact h.parts.set _ _, h.rests.far (by simp) _, h.box.far (by simp) _, h.places.far (by simp) _⟩
theorem Four.setR (h : Four w wr n p r l) (i : Nat) (x : Int) : Four w (wr.setCell ⟨w.heap.size + 1, i, none⟩ (.int .u64 x)) n p (r.set i x) l :=
  ⟨h.below.setCell (by simp) _, by simpa [World.setCell] using h.size, h.parts.far (by simp) _, by rw [← rowI_set]; exact h.rests.set _ _, h.box.far (by simp) _, h.places.far (by simp) _⟩
theorem Four.setL (h : Four w wr n p r l) (i : Nat) (x : Int) : Four w (wr.setCell ⟨w.heap.size + 3, i, none⟩ (.int .i64 x)) n p r (l.set i x) :=
  ⟨h.below.setCell (by simp) _, by simpa [World.setCell] using h.size, h.parts.far (by simp) _, h.rests.far (by simp) _, h.box.far (by simp) _, by rw [← rowI_set]; exact h.places.set _ _⟩
end

theorem Four.new (w : World) (n : Nat) : Four w ((((w.alloc (.cells (rowI .i64 (List.replicate n 0)) 2)).alloc (.cells (rowI .u64 (List.replicate n 0)) 81)).alloc
    (.cells #[.slice (some ⟨w.heap.size + 1, 0, none⟩) n n] 82)).alloc (.cells (rowI .i64 (List.replicate n 0)) 3)) n (List.replicate n 0) (List.replicate n 0) (List.replicate n 0) :=
  ⟨((((Below.refl _ _).alloc (Nat.le_refl _) _).alloc (by simp) _).alloc (by simp; omega) _).alloc (by simp; omega) _, by simp, ((((Blk.new _ _ _).alloc _).alloc _).alloc _), ((Blk.at _ _ _ (by simp)).alloc _).alloc _, (Blk.at _ _ _ (by simp)).alloc _, Blk.at _ _ _ (by simp)⟩
/-- One place's store of all three. -/
theorem Four.step {w wr : World} {n i : Nat} {P R L : List Int} (h : Four w wr n (part P n i) (part R n i) (part L n i)) (hi : i < n) (hP : P.length = n) (hR : R.length = n) (hL : L.length = n) {x y z : Int} (hx : P.getD i 0 = x) (hy : R.getD i 0 = y) (hz : L.getD i 0 = z) :
    Four w (((wr.setCell ⟨w.heap.size, i, none⟩ (.int .i64 x)).setCell ⟨w.heap.size + 1, i, none⟩ (.int .u64 y)).setCell ⟨w.heap.size + 3, i, none⟩ (.int .i64 z)) n (part P n (i + 1)) (part R n (i + 1)) (part L n (i + 1)) := by
  have h1 := ((h.setP i x).setR i y).setL i z
  subst hx hy hz
  rwa [part_set P n i hP hi, part_set R n i hR hi, part_set L n i hL hi] at h1

theorem q_bd (T S x : Int) (hT : 0 < T) (hS : 0 < S) (hx : 0 ≤ x) (hxS : x ≤ S) : 0 ≤ T * x / S ∧ T * x / S ≤ T := by
  have h1 : 0 ≤ T * x := Int.mul_nonneg (by omega) hx
  have h2 : T * x ≤ T * S := Int.mul_le_mul_of_nonneg_left hxS (by omega)
  refine ⟨Int.ediv_nonneg h1 (by omega), ?_⟩
  have h3 := Int.ediv_le_ediv hS h2
  rwa [Int.mul_ediv_cancel _ (by omega)] at h3
theorem hi_bd (T S x : Int) (hT : 0 < T) (hT2 : T ≤ 1099511627776) (hS : 0 < S) (hx : 0 ≤ x) (hxS : x ≤ S) : 0 ≤ T * x / 18446744073709551616 ∧ T * x / 18446744073709551616 < S ∧ 0 ≤ T * x % 18446744073709551616 ∧ T * x % 18446744073709551616 < 18446744073709551616 ∧ T * x / 18446744073709551616 * 18446744073709551616 + T * x % 18446744073709551616 = T * x := by
  have h1 : 0 ≤ T * x := Int.mul_nonneg (by omega) hx
  have h2 : T * x ≤ T * S := Int.mul_le_mul_of_nonneg_left hxS (by omega)
  have h3 : T * S ≤ 1099511627776 * S := Int.mul_le_mul_of_nonneg_right hT2 (by omega)
  generalize T * x = Y at *
  omega
theorem mem_le_sum (zs : List Int) (h : ∀ x ∈ zs, 0 ≤ x) (x : Int) (hx : x ∈ zs) : x ≤ sumL zs := by
  induction zs with
  | nil => cases hx
  | cons a l ih =>
    have h0 := sumL_nonneg l fun y hy => h y (by simp [hy])
    have h1 := h a (by simp)
    simp only [sumL]
    rcases List.mem_cons.1 hx with rfl | hx
    · omega
    · have := ih (fun y hy => h y (by simp [hy])) hx; omega
theorem qs_getD (T S : Int) (zs : List Int) (i : Nat) (h : i < zs.length) : (qs T S zs).getD i 0 = T * zs[i] / S := by simp [qs, h]
theorem rs_getD (T S : Int) (zs : List Int) (i : Nat) (h : i < zs.length) : (rs T S zs).getD i 0 = T * zs[i] % S := by simp [rs, h]
theorem qs_take_succ (T S : Int) (zs : List Int) (k : Nat) (h : k < zs.length) : sumL ((qs T S zs).take (k + 1)) = sumL ((qs T S zs).take k) + T * zs[k] / S := by
  have hk : k < (qs T S zs).length := by simpa [qs] using h
  rw [List.take_succ_eq_append_getElem hk, sumL_append]
  simp [sumL, qs]

/-- The places as integers. -/
def intsN (l : List Nat) : List Int := l.map fun i : Nat => (i : Int)
@[simp] theorem intsN_length (l : List Nat) : (intsN l).length = l.length := by simp [intsN]
theorem rowN_intsN (l : List Nat) : rowN l = rowI .i64 (intsN l) := by simp [rowN, rowI, intsN]
theorem Four.sorted {w wr w' : World} {n : Nat} {p r l : List Int} {l' : List Nat} (h : Four w wr n p r l) (hb : Below (w.heap.size + 3) wr w') (hL : Blk w' (w.heap.size + 3) 3 (rowN l')) (hf : ∀ g t cs, Blk wr g t cs → g ≠ w.heap.size + 3 → Blk w' g t cs) :
    Four w w' n p r (intsN l') :=
  ⟨h.below.trans (hb.mono (by omega)), Nat.lt_of_lt_of_le h.size hb.size, hf _ _ _ h.parts (by omega), hf _ _ _ h.rests (by omega), hf _ _ _ h.box (by omega), by rw [← rowN_intsN]; exact hL⟩

theorem inTop_succ (r : List Int) (k i : Nat) (hk : k < (ordOf r).length) : inTop r (k + 1) i = (inTop r k i || decide (i = (ordOf r)[k])) := by
  unfold inTop
  rw [List.take_succ_eq_append_getElem hk, Bool.eq_iff_iff]
  simp only [List.mem_append, List.mem_singleton, Bool.or_eq_true, decide_eq_true_eq]
theorem inTop_new (r : List Int) (k : Nat) (hk : k < (ordOf r).length) : inTop r k (ordOf r)[k] = false := by
  unfold inTop
  have h := ordOf_nodup r
  rw [← List.take_append_drop k (ordOf r), List.nodup_append] at h
  have h2 := h.2.2
  simp only [decide_eq_false_iff_not]
  intro hm
  refine h2 _ hm (ordOf r)[k] ?_ rfl
  rw [List.drop_eq_getElem_cons hk]
  exact List.mem_cons_self
/-- One more for each of the first k places of the order. -/
def bump (Q r : List Int) (k : Nat) : List Int := (List.range Q.length).map fun i => Q.getD i 0 + if inTop r k i = true then 1 else 0
@[simp] theorem bump_length (Q r : List Int) (k : Nat) : (bump Q r k).length = Q.length := by simp [bump]
theorem bump_zero (Q r : List Int) : bump Q r 0 = Q := by
  apply List.ext_getElem
  · simp
  · intro i h1 h2
    simp [bump, inTop, h2]
theorem bump_get (Q r : List Int) (k i : Nat) (h : i < Q.length) : (bump Q r k).getD i 0 = Q.getD i 0 + if inTop r k i = true then 1 else 0 := by
  simp [bump, h]
theorem bump_step (Q r : List Int) (k : Nat) (hk : k < (ordOf r).length) {v : Int} (hv : (bump Q r k).getD (ordOf r)[k] 0 = v) (hQ : r.length = Q.length) :
    (bump Q r k).set (ordOf r)[k] (v + 1) = bump Q r (k + 1) := by
  have hn := inTop_new r k hk
  have ho : (ordOf r)[k] < Q.length := by
    have := (ordOf_mem r (ordOf r)[k]).1 (List.getElem_mem hk)
    omega
  have hs := fun i => inTop_succ r k i hk
  subst hv
  rw [bump_get _ _ _ _ ho]
  generalize (ordOf r)[k] = o at *
  apply List.ext_getElem
  · simp
  · intro i h1 h2
    have h3 : i < Q.length := by simpa using h2
    simp only [List.getElem_set, bump, List.getElem_map, List.getElem_range]
    by_cases hi : o = i
    · subst hi
      simp [hs, hn]
    · simp [hs, hi, Ne.symm hi]
theorem parts_bump (T : Int) (zs : List Int) : partsOf T zs = bump (qs T (sumL zs) zs) (rs T (sumL zs) zs) (lft T zs).toNat := by
  unfold partsOf bump
  simp [qs]

end Go.Proofs.YtdkabldhkgidjaaDoor
