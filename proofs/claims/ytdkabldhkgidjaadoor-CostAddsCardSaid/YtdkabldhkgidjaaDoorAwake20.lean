/-
  The document's example (layer 20): its walk.
-/
import Derived.Test.YtdkabldhkgidjaaDoorREach
import Derived.Test.YtdkabldhkgidjaaDoorSame
namespace Go.Proofs.YtdkabldhkgidjaaDoor
set_option linter.unusedVariables false
set_option linter.unusedSimpArgs false
open Go.RowKit

def aN : ByteArray := ⟨#[110]⟩
def aS : ByteArray := ⟨#[115]⟩
def aB : ByteArray := ⟨#[98]⟩
def aE : ByteArray := ⟨#[69, 85, 82]⟩
def aF : ByteArray := ⟨#[102]⟩
def aT : ByteArray := ⟨#[116]⟩
def aX : ByteArray := ⟨#[120]⟩
def aY : ByteArray := ⟨#[121]⟩
def aSea : ByteArray := ⟨#[115, 101, 97]⟩
def aRoad : ByteArray := ⟨#[114, 111, 97, 100]⟩
def awO (g : Nat) : Ord := ⟨aN, aS, aB, aE, aF, aT, 5, some ⟨g, 0, none⟩, 2, 2, [⟨aX, 3, 10⟩, ⟨aY, 1, 10⟩]⟩
def awC : List Cst := [⟨aSea, 3, 5⟩, ⟨aRoad, 6, 8⟩]
theorem aw_ns (x : List UInt8) (h : ¬ (98 : UInt8) = 115 := by decide) : sameS aS aB = false := by
  cases hx : sameS aS aB
  · rfl
  · exact absurd (sameS_iff.1 hx) (by decide)
theorem aw_may (g : Nat) : (awO g).may = true := by
  unfold Ord.may
  rw [show sameS (awO g).se (awO g).bu = false from aw_ns []]
  have e1 : (awO g).names.all nameB = true := by show ([aN, aS, aB, aF, aT].all nameB) = true; decide
  have e2 : currB (awO g).cu = true := by show currB aE = true; decide
  have e3 : linesB (awO g).L = true := by show linesB [⟨aX, 3, 10⟩, ⟨aY, 1, 10⟩] = true; decide
  rw [e1, e2, e3]
  rfl
theorem aw_sum (g : Nat) : sumW (awO g).L = 40 := by show sumW [⟨aX, 3, 10⟩, ⟨aY, 1, 10⟩] = 40; decide
theorem aw_totE (g : Nat) : totE (awO g) = 0 := by unfold totE; rw [aw_may, if_pos rfl, aw_sum]; decide
theorem aw_totN (g : Nat) : totN (awO g) = 40 := by unfold totN; rw [aw_totE, if_pos rfl, aw_sum]
theorem aw_split : splitE 5 awC = 0 := by decide
theorem aw_of0 : ofC 5 false awC = [⟨aSea, 3, 5⟩] := by rfl
theorem aw_of1 : ofC 5 true awC = [⟨aRoad, 6, 8⟩] := by rfl
theorem aw_buy (g : Nat) : buyS (awO g) awC = 8 := by
  unfold buyS
  rw [show (awO g).term = 5 from rfl, aw_of1]
  decide
theorem aw_landE (g : Nat) : landE (awO g) awC = 0 := by
  unfold landE
  rw [aw_totE, if_pos rfl, show (awO g).term = 5 from rfl, aw_split, if_pos rfl, aw_totN, aw_buy]
  decide
theorem aw_landT (g : Nat) : landT (awO g) awC = 40 := by unfold landT; rw [aw_landE, if_pos rfl, aw_totN]
theorem aw_landC (g : Nat) : landC (awO g) awC = 8 := by unfold landC; rw [aw_landE, if_pos rfl, aw_buy]
theorem aw_each (g : Nat) : eachP (awO g) awC = [36, 12] := by
  unfold eachP
  rw [aw_landC]
  have e0 : (awO g).L.map (wgtO (awO g)) = [30, 10] := by
    have e1 : (awO g).L.map (wgtO (awO g)) = (awO g).L.map worth := List.map_congr_left fun x _ => by unfold wgtO; rw [if_neg (by rw [aw_totN]; decide)]
    rw [e1]
    show ([⟨aX, 3, 10⟩, ⟨aY, 1, 10⟩] : List Lne).map worth = [30, 10]
    decide
  have e1 : (awO g).L.map worth = [30, 10] := by
    show ([⟨aX, 3, 10⟩, ⟨aY, 1, 10⟩] : List Lne).map worth = [30, 10]
    decide
  have e5 : partsOf 8 [30, 10] = [6, 2] := by
    have e2 : sumL [30, 10] = 40 := by decide
    have e3 : lft 8 [30, 10] = 0 := by decide
    have e4 : qs 8 40 [30, 10] = [6, 2] := by decide
    simp [partsOf, inTop, e2, e3, e4, List.range, List.range.loop]
  rw [e0, e1, e5, show (awO g).L.length = 2 from rfl]
  decide
theorem Rd.cells' {w : World} {b : Nat} {t : TypeId} {cs : Array Value} {xs : List Value} (h : Blk w b t cs) (e : cs.toList = xs) : Rd w (some ⟨b, 0, none⟩) xs := fun _ => by
  refine ⟨b, 0, rfl, h.lt, fun j v hv => ?_⟩
  rw [Nat.zero_add]
  exact h.cell j (by rw [← e] at hv; simpa using hv)
theorem awO_ok {w : World} {g : Nat} {t : TypeId} (h : Blk w g t #[.string aX, .int .i64 3, .int .i64 10, .string aY, .int .i64 1, .int .i64 10]) : OrdOk w (awO g) :=
  ⟨by show aN.size ≤ _; decide, by show aS.size ≤ _; decide, by show aB.size ≤ _; decide, by show aE.size ≤ _; decide, by show aF.size ≤ _; decide, by show aT.size ≤ _; decide, rfl, by show 2 ≤ _; decide, by show 2 ≤ 2; decide, Rd.cells' h rfl, by
    intro x hx
    simp only [awO, List.mem_cons, List.not_mem_nil, or_false] at hx
    rcases hx with rfl | rfl <;> (show ByteArray.size _ ≤ _; decide)⟩
theorem awC_ok : ∀ x ∈ awC, CstOk x := by
  intro x hx
  simp only [awC, List.mem_cons, List.not_mem_nil, or_false] at hx
  rcases hx with rfl | rfl <;> (show ByteArray.size _ ≤ _; decide)
theorem flat_get0 {w : World} {A : Option Addr} (h : Rd w A (flat cC [⟨aSea, 3, 5⟩])) : ∃ b o, A = some ⟨b, o, none⟩ ∧ b < w.heap.size ∧ w.cell? ⟨b, o, none⟩ = some (.string aSea) := by
  obtain ⟨b, o, e, hb, hr⟩ := h (by simp [flat, cC])
  exact ⟨b, o, e, hb, by have := hr 0 _ rfl; rw [Nat.add_zero] at this; exact this⟩

set_option maxRecDepth 100000 in
set_option maxHeartbeats 3200000 in
theorem c_awake20 (w : World) (hT : Tab w) : Calls Tryd.prog 10 #[] w fun e w' => e = .returned (.bool true) ∧ Below w.heap.size w w' := by
  have HLa := Lib.hid (fun wx ho hr hT => c_landed (awO w.heap.size) (some ⟨w.heap.size + 1 + 1, 0, none⟩) 2 2 awC wx ho rfl (by decide) hr awC_ok hT)
  rw [aw_landT, aw_landC, aw_landE] at HLa
  have HEa0 := fun wx ho hr hT => c_each (awO w.heap.size) (some ⟨w.heap.size + 1 + 1, 0, none⟩) 2 2 awC wx ho rfl (by decide) hr awC_ok hT (aw_landE _)
  unfold EachOk at HEa0
  rw [aw_each] at HEa0
  have HEa := Lib.hid HEa0
  have HSp0 := fun wx hr hT => c_csplit 5 (some ⟨w.heap.size + 1 + 1, 0, none⟩) 2 2 awC wx rfl hr awC_ok hT aw_split
  unfold CSplitOk at HSp0
  rw [aw_of0, aw_of1] at HSp0
  have HSp := Lib.hid HSp0
  clear HEa0 HSp0
  unfold Ord.v awO at HLa HEa
  have BL := Lib.hid (((Blk.new w 44 #[.string aX, .int .i64 3, .int .i64 10, .string aY, .int .i64 1, .int .i64 10]).alloc (.cells #[.string aN, .string aS, .string aB, .string aE, .string aF, .string aT, .int .i64 5, .slice (some ⟨w.heap.size, 0, none⟩) 2 2] 33)).alloc (.cells #[.string aSea, .int .i64 3, .int .i64 5, .string aRoad, .int .i64 6, .int .i64 8] 55))
  have BO := Lib.hid ((Blk.at (w.alloc (.cells #[.string aX, .int .i64 3, .int .i64 10, .string aY, .int .i64 1, .int .i64 10] 44)) 33 (#[.string aN, .string aS, .string aB, .string aE, .string aF, .string aT, .int .i64 5, .slice (some ⟨w.heap.size, 0, none⟩) 2 2]) (n := w.heap.size + 1) (by simp)).alloc (.cells #[.string aSea, .int .i64 3, .int .i64 5, .string aRoad, .int .i64 6, .int .i64 8] 55))
  have BC := Lib.hid (Blk.at ((w.alloc (.cells #[.string aX, .int .i64 3, .int .i64 10, .string aY, .int .i64 1, .int .i64 10] 44)).alloc (.cells #[.string aN, .string aS, .string aB, .string aE, .string aF, .string aT, .int .i64 5, .slice (some ⟨w.heap.size, 0, none⟩) 2 2] 33)) 55 #[.string aSea, .int .i64 3, .int .i64 5, .string aRoad, .int .i64 6, .int .i64 8] (n := w.heap.size + 1 + 1) (by simp))
  have HB0 := Lib.hid ((((Below.refl w.heap.size w).alloc (Nat.le_refl _) (.cells #[.string aX, .int .i64 3, .int .i64 10, .string aY, .int .i64 1, .int .i64 10] 44)).alloc (by simp) (.cells #[.string aN, .string aS, .string aB, .string aE, .string aF, .string aT, .int .i64 5, .slice (some ⟨w.heap.size, 0, none⟩) 2 2] 33)).alloc (by simp; omega) (.cells #[.string aSea, .int .i64 3, .int .i64 5, .string aRoad, .int .i64 6, .int .i64 8] 55))
  have HT := Lib.hid hT
  clear hT
  go_enter Tryd.func10, Tryd.ntmps10
  go_wp2_with fail
  unfold aN aS aB aE aF aT aX aY aSea aRoad at *
  generalize hwa : ((w.alloc (.cells #[.string aX, .int .i64 3, .int .i64 10, .string aY, .int .i64 1, .int .i64 10] 44)).alloc (.cells #[.string aN, .string aS, .string aB, .string aE, .string aF, .string aT, .int .i64 5, .slice (some ⟨w.heap.size, 0, none⟩) 2 2] 33)).alloc (.cells #[.string aSea, .int .i64 3, .int .i64 5, .string aRoad, .int .i64 6, .int .i64 8] 55) = wa at *
  obtain ⟨g, hg⟩ : ∃ g, g = w.heap.size := ⟨_, rfl⟩
  have HG := Lib.hid hg
  have hgl := BL.out.lt
  clear hwa
  refine (HLa.out _ (awO_ok BL.out) (Rd.cells' BC.out rfl) (HT.out.below HB0.out)).mono ?_
  rintro e w1 ⟨rfl, hb1⟩
  have HB1 := Lib.hid (HB0.out.trans (hb1.mono HB0.out.size))
  have BL1 := Lib.hid (BL.out.below hb1 BL.out.lt)
  have BO1 := Lib.hid (BO.out.below hb1 BO.out.lt)
  have BC1 := Lib.hid (BC.out.below hb1 BC.out.lt)
  clear hb1 hg
  have k0 := BO1.out.cell 0 rfl
  have k1 := BO1.out.cell 1 rfl
  have k2 := BO1.out.cell 2 rfl
  have k3 := BO1.out.cell 3 rfl
  have k4 := BO1.out.cell 4 rfl
  have k5 := BO1.out.cell 5 rfl
  have k6 := BO1.out.cell 6 rfl
  have k7 := BO1.out.cell 7 rfl
  go_wp2_with fail
  refine (HEa.out _ (awO_ok BL1.out) (Rd.cells' BC1.out rfl) (HT.out.below HB1.out)).mono ?_
  rintro e w2 ⟨b, t, rfl, hbl, hb2, hblk⟩
  have HB2 := Lib.hid (HB1.out.trans (hb2.mono HB1.out.size))
  have BC2 := Lib.hid (BC1.out.below hb2 BC1.out.lt)
  have BE := Lib.hid hblk
  clear hb2 hblk hbl k0 k1 k2 k3 k4 k5 k6 k7
  go_wp2_with fail
  refine (HSp.out _ (Rd.cells' BC2.out rfl) (HT.out.below HB2.out)).mono ?_
  rintro e w3 ⟨A1, c1, A2, c2, rfl, hr1, hr2, hb3⟩
  have HB3 := Lib.hid (HB2.out.trans (hb3.mono HB2.out.size))
  have BE3 := Lib.hid (BE.out.below hb3 BE.out.lt)
  obtain ⟨b1, o1, rfl, hb1, hc1⟩ := flat_get0 hr1
  clear hb3 hr1 hr2
  go_wp2_with fail
  have HS0 := c_same (some ⟨b, 0, none⟩) (some ⟨w3.heap.size, 0, none⟩) 2 2 2 2 [36, 12] [36, 12] (w3.alloc (.cells #[.int .i64 36, .int .i64 12] 2)) rfl rfl (by decide) (by decide) (Rd.blk' (BE3.out.alloc _)) (Rd.cells' (Blk.new w3 _ _) rfl)
  rw [show decide (([36, 12] : List Int) = [36, 12]) = true by decide] at HS0
  have HS1 := Lib.hid HS0
  clear HS0
  have HB4 := Lib.hid (HB3.out.alloc HB3.out.size (.cells #[.int .i64 36, .int .i64 12] 2))
  unfold aSea at hc1
  refine HS1.out.mono ?_
  rintro e w4 ⟨rfl, q, rfl⟩
  go_wp2_with fail
  go_ret
  exact ⟨rfl, below_drewN HB4.out _⟩

end Go.Proofs.YtdkabldhkgidjaaDoor
