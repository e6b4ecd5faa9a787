/-
  policy.Insured and policy.Pays: their walks.
-/
import Derived.Test.YtbcmaaoddnaoiaaPol
import Derived.Test.YtbcmaaoddnaoiaaOfN
namespace Go.Proofs.Ytbcmaaoddnaoiaa
set_option linter.unusedVariables false
set_option linter.unusedSimpArgs false
open Go.RowKit

theorem mayP_facts {i f t : ByteArray} {sum own : Int} {z : List Int} {first last share : Int} (h : mayP i f t sum own z first last share = true) :
    (nameB i = true ∧ nameB f = true ∧ nameB t = true ∧ z.length ≤ 64 ∧ causesB z = true) ∧ (1 ≤ sum ∧ sum ≤ 1099511627776) ∧ (0 ≤ own ∧ own ≤ sum) ∧ (1 ≤ share ∧ share ≤ 1000) ∧ (0 ≤ first ∧ first ≤ 1048576) ∧ (0 ≤ last ∧ last ≤ 1048576) ∧ first ≤ last := by
  unfold mayP at h
  simp only [Bool.and_eq_true, decide_eq_true_eq] at h
  obtain ⟨⟨⟨⟨⟨h1, h2⟩, h3⟩, h4⟩, h5⟩, ⟨⟨⟨⟨h6, h7⟩, h8⟩, h9⟩, h10⟩, h11⟩ := h
  exact ⟨⟨h1, h2, h3, h4, h5⟩, wB_t h6, wB_t h7, wB_t h8, wB_t h9, wB_t h10, h11⟩
/-- What is paid. -/
def paysP (sum own share loss value : Int) : Int := max (min loss value * min value sum / value - own) 0 * share / 1000
theorem scaled_bd (T n d : Int) (hT : 0 ≤ T) (hn : 0 ≤ n) (hnd : n ≤ d) (hd : 1 ≤ d) : 0 ≤ T * n / d ∧ T * n / d ≤ T ∧ T * n / d ≤ n + T := by
  have h0 := Int.mul_nonneg hT hn
  have h1 := Int.ediv_nonneg h0 (show 0 ≤ d by omega)
  have h2 : T * n ≤ T * d := Int.mul_le_mul_of_nonneg_left hnd hT
  have h3 := Int.ediv_le_ediv (show 0 < d by omega) h2
  rw [Int.mul_ediv_cancel _ (by omega)] at h3
  exact ⟨h1, h3, by omega⟩

set_option maxRecDepth 100000 in
set_option maxHeartbeats 1600000 in
theorem c_pins (i f t : ByteArray) (sum own : Int) (ca : Option Addr) (cn cc : Nat) (z : List Int) (first last share value : Int) (w : World) (hi : i.size ≤ 9223372036854775807) (hf : f.size ≤ 9223372036854775807) (ht : t.size ≤ 9223372036854775807) (hz : z.length = cn) (hc : Rd w ca (vals .i64 z)) (hcn : cn ≤ 9223372036854775807) :
    Calls Try.prog 95 #[polV i f t sum own ca cn cc first last share, .int .i64 value] w fun e w' => e = .returned (.tuple #[.int .i64 (if mayP i f t sum own z first last share && wB value 1 1099511627776 then min value sum else 0), .bool (mayP i f t sum own z first last share && wB value 1 1099511627776)]) ∧ Below w.heap.size w w' := by
  have HM := Lib.hid (fun w hc => c_pmay i f t sum own ca cn cc z first last share w hi hf ht hz hc hcn)
  have HW := Lib.hid (fun n lo hi w => c_pwithin n lo hi w)
  have HC := Lib.hid hc
  clear hi hf ht hz hc
  unfold polV at HM ⊢
  generalize mayP i f t sum own z first last share = M at *
  cases M
  · go_enter Try.func95, Try.ntmps95
    go_wp2_with (go_at_call 62; (with_reducible refine (HM.out _ (HC.out.alloc _)).mono ?_); rintro e w1 ⟨rfl, hb1⟩; have HB := Lib.hid (((Below.refl w.heap.size w).alloc (Nat.le_refl _) _).trans (hb1.mono (by simp))); clear hb1)
    go_ret2
    exact ⟨rfl, HB.out⟩
  · cases hv : wB value 1 1099511627776
    · go_enter Try.func95, Try.ntmps95
      go_wp2_with (first | (go_at_call 62; (with_reducible refine (HM.out _ (HC.out.alloc _)).mono ?_); rintro e w1 ⟨rfl, hb1⟩; have HB := Lib.hid (((Below.refl w.heap.size w).alloc (Nat.le_refl _) _).trans (hb1.mono (by simp))); clear hb1) | (go_at_call 91; (with_reducible refine (HW.out _ _ _ _).mono ?_); rintro e w' ⟨rfl, rfl⟩))
      go_ret2
      exact ⟨rfl, HB.out⟩
    · go_enter Try.func95, Try.ntmps95
      go_wp2_with (first | (go_at_call 62; (with_reducible refine (HM.out _ (HC.out.alloc _)).mono ?_); rintro e w1 ⟨rfl, hb1⟩; obtain ⟨hcc, hff⟩ := bcell hb1; have k3 : w1.cell? ⟨w.heap.size, 3, none⟩ = some (.int .i64 sum) := (hcc _ 3 (by simp)).trans (World.cell?_alloc_new _ _ _ _); have HB := Lib.hid (((Below.refl w.heap.size w).alloc (Nat.le_refl _) _).trans (hb1.mono (by simp))); clear hb1 hcc hff) | (go_at_call 91; (with_reducible refine (HW.out _ _ _ _).mono ?_); rintro e w' ⟨rfl, rfl⟩))
      go_ret2
      exact ⟨rfl, HB.out⟩

/-- Is anything told of a loss and a value? -/
def tellsP (i f t : ByteArray) (sum own : Int) (z : List Int) (first last share loss value : Int) : Bool := mayP i f t sum own z first last share && wB value 1 1099511627776 && wB loss 0 1099511627776

set_option maxRecDepth 100000 in
set_option maxHeartbeats 1600000 in
theorem c_ppays (i f t : ByteArray) (sum own : Int) (ca : Option Addr) (cn cc : Nat) (z : List Int) (first last share loss value : Int) (w : World) (hi : i.size ≤ 9223372036854775807) (hf : f.size ≤ 9223372036854775807) (ht : t.size ≤ 9223372036854775807) (hz : z.length = cn) (hc : Rd w ca (vals .i64 z)) (hcn : cn ≤ 9223372036854775807) :
    Calls Try.prog 71 #[polV i f t sum own ca cn cc first last share, .int .i64 loss, .int .i64 value] w fun e w' => e = .returned (.tuple #[.int .i64 (if tellsP i f t sum own z first last share loss value then paysP sum own share loss value else 0), .bool (tellsP i f t sum own z first last share loss value)]) ∧ Below w.heap.size w w' := by
  have HI := fun w hc => c_pins i f t sum own ca cn cc z first last share value w hi hf ht hz hc hcn
  have HW := Lib.hid (fun n lo hi w => c_pwithin n lo hi w)
  have HC := Lib.hid hc
  clear hi hf ht hz hc
  have hfx := fun h => mayP_facts (i := i) (f := f) (t := t) (sum := sum) (own := own) (z := z) (first := first) (last := last) (share := share) h
  unfold tellsP
  unfold polV at HI ⊢
  generalize mayP i f t sum own z first last share = M at *
  cases M
  · have HI := Lib.hid HI
    clear hfx
    go_enter Try.func71, Try.ntmps71
    go_wp2_with (first | (go_at_call 95; (with_reducible refine (HI.out _ (HC.out.alloc _)).mono ?_); rintro e w1 ⟨rfl, hb1⟩; obtain ⟨hcc, hff⟩ := bcell hb1; have k4 : w1.cell? ⟨w.heap.size, 4, none⟩ = some (.int .i64 own) := (hcc _ 4 (by simp)).trans (World.cell?_alloc_new _ _ _ _); have k8 : w1.cell? ⟨w.heap.size, 8, none⟩ = some (.int .i64 share) := (hcc _ 8 (by simp)).trans (World.cell?_alloc_new _ _ _ _); have HB := Lib.hid (((Below.refl w.heap.size w).alloc (Nat.le_refl _) _).trans (hb1.mono (by simp))); have hz1 := HB.out.size; have hlt1 : w.heap.size < w1.heap.size := (by have := hb1.size; simp at this; omega); clear hb1 hcc hff) | (go_at_call 91; (with_reducible refine (HW.out _ _ _ _).mono ?_); rintro e w' ⟨rfl, rfl⟩) | (go_at_call 96; (with_reducible refine (HO.out _).mono ?_); rintro e w2 ⟨rfl, hb2⟩; obtain ⟨hcc, hff⟩ := bcell hb2; have j4 : w2.cell? ⟨w.heap.size, 4, none⟩ = some (.int .i64 own) := (hcc _ 4 (by omega)).trans k4; have j8 : w2.cell? ⟨w.heap.size, 8, none⟩ = some (.int .i64 share) := (hcc _ 8 (by omega)).trans k8; have HB2 := Lib.hid (HB.out.trans (hb2.mono hz1)); clear hb2 hcc hff))
    go_ret2
    exact ⟨rfl, HB.out⟩
  · obtain ⟨_, ⟨s0, s1⟩, ⟨o0, o1⟩, ⟨h0, h1⟩, _⟩ := hfx rfl
    cases hv : wB value 1 1099511627776
    · rw [hv] at HI
      have HI := Lib.hid HI
      clear hfx hv
      go_enter Try.func71, Try.ntmps71
      go_wp2_with (first | (go_at_call 95; (with_reducible refine (HI.out _ (HC.out.alloc _)).mono ?_); rintro e w1 ⟨rfl, hb1⟩; obtain ⟨hcc, hff⟩ := bcell hb1; have k4 : w1.cell? ⟨w.heap.size, 4, none⟩ = some (.int .i64 own) := (hcc _ 4 (by simp)).trans (World.cell?_alloc_new _ _ _ _); have k8 : w1.cell? ⟨w.heap.size, 8, none⟩ = some (.int .i64 share) := (hcc _ 8 (by simp)).trans (World.cell?_alloc_new _ _ _ _); have HB := Lib.hid (((Below.refl w.heap.size w).alloc (Nat.le_refl _) _).trans (hb1.mono (by simp))); have hz1 := HB.out.size; have hlt1 : w.heap.size < w1.heap.size := (by have := hb1.size; simp at this; omega); clear hb1 hcc hff) | (go_at_call 91; (with_reducible refine (HW.out _ _ _ _).mono ?_); rintro e w' ⟨rfl, rfl⟩) | (go_at_call 96; (with_reducible refine (HO.out _).mono ?_); rintro e w2 ⟨rfl, hb2⟩; obtain ⟨hcc, hff⟩ := bcell hb2; have j4 : w2.cell? ⟨w.heap.size, 4, none⟩ = some (.int .i64 own) := (hcc _ 4 (by omega)).trans k4; have j8 : w2.cell? ⟨w.heap.size, 8, none⟩ = some (.int .i64 share) := (hcc _ 8 (by omega)).trans k8; have HB2 := Lib.hid (HB.out.trans (hb2.mono hz1)); clear hb2 hcc hff))
      go_ret2
      exact ⟨rfl, HB.out⟩
    · rw [hv] at HI
      have HI := Lib.hid HI
      obtain ⟨v0, v1⟩ := wB_t hv
      clear hfx hv
      cases hl : wB loss 0 1099511627776
      · go_enter Try.func71, Try.ntmps71
        go_wp2_with (first | (go_at_call 95; (with_reducible refine (HI.out _ (HC.out.alloc _)).mono ?_); rintro e w1 ⟨rfl, hb1⟩; obtain ⟨hcc, hff⟩ := bcell hb1; have k4 : w1.cell? ⟨w.heap.size, 4, none⟩ = some (.int .i64 own) := (hcc _ 4 (by simp)).trans (World.cell?_alloc_new _ _ _ _); have k8 : w1.cell? ⟨w.heap.size, 8, none⟩ = some (.int .i64 share) := (hcc _ 8 (by simp)).trans (World.cell?_alloc_new _ _ _ _); have HB := Lib.hid (((Below.refl w.heap.size w).alloc (Nat.le_refl _) _).trans (hb1.mono (by simp))); have hz1 := HB.out.size; have hlt1 : w.heap.size < w1.heap.size := (by have := hb1.size; simp at this; omega); clear hb1 hcc hff) | (go_at_call 91; (with_reducible refine (HW.out _ _ _ _).mono ?_); rintro e w' ⟨rfl, rfl⟩) | (go_at_call 96; (with_reducible refine (HO.out _).mono ?_); rintro e w2 ⟨rfl, hb2⟩; obtain ⟨hcc, hff⟩ := bcell hb2; have j4 : w2.cell? ⟨w.heap.size, 4, none⟩ = some (.int .i64 own) := (hcc _ 4 (by omega)).trans k4; have j8 : w2.cell? ⟨w.heap.size, 8, none⟩ = some (.int .i64 share) := (hcc _ 8 (by omega)).trans k8; have HB2 := Lib.hid (HB.out.trans (hb2.mono hz1)); clear hb2 hcc hff))
        go_ret2
        exact ⟨rfl, HB.out⟩
      · obtain ⟨l0, l1⟩ := wB_t hl
        unfold paysP
        have m0 : 1 ≤ min value sum := by omega
        have m1 : min value sum ≤ value := by omega
        have n0 : 0 ≤ min loss value := by omega
        have n1 : min loss value ≤ 1099511627776 := by omega
        have hsc := scaled_bd (min loss value) (min value sum) value n0 (by omega) m1 v0
        obtain ⟨q0, q1, q2⟩ := hsc
        have HO := Lib.hid (fun w => c_of_ok (min loss value) (min value sum) value w (by omega) (by omega) (by omega) (by omega) n0 n1 (by omega))
        clear q2
        generalize min loss value * min value sum / value = q at *
        have e1 : IntKind.i64.wrap (q - own) = q - own := IntWalk.i64_in _ (by omega)
        have r0 : 0 ≤ max (q - own) 0 := by omega
        have r1 : max (q - own) 0 ≤ 1099511627776 := by omega
        have r2 : 0 ≤ max (q - own) 0 * share := Int.mul_nonneg r0 (by omega)
        have r3 : max (q - own) 0 * share ≤ 1099511627776 * 1000 := Int.mul_le_mul r1 h1 (by omega) (by omega)
        have e2 : IntKind.i64.wrap (max (q - own) 0 * share) = max (q - own) 0 * share := IntWalk.i64_in _ (by omega)
        go_enter Try.func71, Try.ntmps71
        go_wp2_with (first | (go_at_call 95; (with_reducible refine (HI.out _ (HC.out.alloc _)).mono ?_); rintro e w1 ⟨rfl, hb1⟩; obtain ⟨hcc, hff⟩ := bcell hb1; have k4 : w1.cell? ⟨w.heap.size, 4, none⟩ = some (.int .i64 own) := (hcc _ 4 (by simp)).trans (World.cell?_alloc_new _ _ _ _); have k8 : w1.cell? ⟨w.heap.size, 8, none⟩ = some (.int .i64 share) := (hcc _ 8 (by simp)).trans (World.cell?_alloc_new _ _ _ _); have HB := Lib.hid (((Below.refl w.heap.size w).alloc (Nat.le_refl _) _).trans (hb1.mono (by simp))); have hz1 := HB.out.size; have hlt1 : w.heap.size < w1.heap.size := (by have := hb1.size; simp at this; omega); clear hb1 hcc hff) | (go_at_call 91; (with_reducible refine (HW.out _ _ _ _).mono ?_); rintro e w' ⟨rfl, rfl⟩) | (go_at_call 96; (with_reducible refine (HO.out _).mono ?_); rintro e w2 ⟨rfl, hb2⟩; obtain ⟨hcc, hff⟩ := bcell hb2; have j4 : w2.cell? ⟨w.heap.size, 4, none⟩ = some (.int .i64 own) := (hcc _ 4 (by omega)).trans k4; have j8 : w2.cell? ⟨w.heap.size, 8, none⟩ = some (.int .i64 share) := (hcc _ 8 (by omega)).trans k8; have HB2 := Lib.hid (HB.out.trans (hb2.mono hz1)); clear hb2 hcc hff))
        go_ret2
        exact ⟨rfl, HB2.out⟩

end Go.Proofs.Ytbcmaaoddnaoiaa
