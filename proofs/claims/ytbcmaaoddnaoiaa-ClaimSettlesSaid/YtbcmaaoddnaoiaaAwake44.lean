/-
  Layer 44's first words.
-/
import Derived.Test.YtbcmaaoddnaoiaaClShare
import Derived.Test.YtbcmaaoddnaoiaaClClaim2
import Derived.Test.YtbcmaaoddnaoiaaClRec2
import Derived.Test.YtbcmaaoddnaoiaaSame
namespace Go.Proofs.Ytbcmaaoddnaoiaa
set_option linter.unusedVariables false
set_option linter.unusedSimpArgs false
open Go.RowKit

def polA (s : ByteArray) (sum : Int) : Pol := ⟨s, ⟨#[102]⟩, ⟨#[116]⟩, sum, 0, none, 0, 0, [], 0, 9, 1000⟩
theorem polA_ok (s : ByteArray) (sum : Int) (hs : s.size ≤ 9223372036854775807) (w : World) : PolOk w (polA s sum) := ⟨hs, by show (⟨#[102]⟩ : ByteArray).size ≤ _; decide, by show (⟨#[116]⟩ : ByteArray).size ≤ _; decide, rfl, Rd.nil _ _, by show 0 ≤ _; omega⟩
set_option maxHeartbeats 400000 in
theorem c_policy (s : ByteArray) (sum : Int) (w : World) : Calls Try.prog 60 #[.string s, .int .i64 sum] w fun e w' => e = .returned (polA s sum).v ∧ Below w.heap.size w w' := by
  unfold Pol.v polV polA
  go_enter Try.func60, Try.ntmps60
  go_wp2
  exact bodyPost_ret (v := .agg #[.string s, .string ⟨#[102]⟩, .string ⟨#[116]⟩, .int .i64 sum, .int .i64 0, .slice none 0 0, .int .i64 0, .int .i64 9, .int .i64 1000]) (by simp [results, Try.results60, go_sem]) rfl ⟨rfl, (Below.refl _ _).alloc (Nat.le_refl _) _⟩

def nmA : ByteArray := ⟨#[97]⟩
def nmB : ByteArray := ⟨#[98]⟩
def awP : List Pol := [polA nmA 60, polA nmB 30]
theorem aw44a : shareBad 45 awP = false := by decide
theorem aw44b : shareBad 200 awP = false := by decide
theorem aw44c : sharesP 45 awP = [30, 15] := by
  have e0 : linesP awP = [60, 30] := by decide
  have e2 : sumL [60, 30] = 90 := by decide
  have e3 : lft 45 [60, 30] = 0 := by decide
  have e4 : qs 45 90 [60, 30] = [30, 15] := by decide
  unfold sharesP
  rw [e0, if_neg (by decide)]
  simp [partsOf, inTop, e2, e3, e4, List.range, List.range.loop]
theorem aw44d : sharesP 200 awP = [60, 30] := by
  unfold sharesP
  rw [if_pos (by decide)]
  decide
theorem aw44e : claimE [] nmA (polA nmA 60) = 0 := by
  unfold claimE
  rw [if_neg (by decide), if_neg (by rw [show sameB nmA (polA nmA 60).i = true from sameB_iff.2 rfl]; decide), if_neg (by decide)]
theorem aw44f : claimN 100 100 0 [] (polA nmA 60) = 60 := by decide
theorem aw44g : recE 100 0 [⟨nmA, 60, 0⟩] 80 = 0 := by decide
theorem aw44h : (recGo 80 [⟨nmA, 60, 0⟩]).2.1 ++ oneE ⟨#[]⟩ (recGo 80 [⟨nmA, 60, 0⟩]).2.2 = [(nmA, 60), (⟨#[]⟩, 20)] := by
  have e1 : (recGo 80 [⟨nmA, 60, 0⟩]).2.1 = [(nmA, 60)] := rfl
  have e2 : (recGo 80 [⟨nmA, 60, 0⟩]).2.2 = 20 := rfl
  rw [e1, e2]
  rfl
theorem aw44i : FileOk 100 100 0 [⟨nmA, 60, 0⟩] := ⟨by omega, by omega, by omega, by intro x hx; obtain rfl := List.mem_singleton.1 hx; exact ⟨by decide, by decide⟩, by decide⟩
theorem Rd.cells' {w : World} {b : Nat} {t : TypeId} {cs : Array Value} {xs : List Value} (h : Blk w b t cs) (e : cs.toList = xs) : Rd w (some ⟨b, 0, none⟩) xs := fun _ => by
  refine ⟨b, 0, rfl, h.lt, fun j v hv => ?_⟩
  rw [Nat.zero_add]
  exact h.cell j (by rw [← e] at hv; simpa using hv)
theorem awPs {w : World} {b : Nat} {t : TypeId} {cs : Array Value} (h : Blk w b t cs) (e : cs.toList = cellsP awP) : Pols w (some ⟨b, 0, none⟩) awP :=
  ⟨Rd.cells' h e, by
    intro p hp
    simp only [awP, List.mem_cons, List.not_mem_nil, or_false] at hp
    rcases hp with rfl | rfl
    · exact polA_ok _ _ (by decide) _
    · exact polA_ok _ _ (by decide) _⟩

set_option maxRecDepth 100000 in
set_option maxHeartbeats 3200000 in
theorem c_awake44 (w : World) : Calls Try.prog 27 #[] w fun e w' => e = .returned (.bool true) ∧ Below w.heap.size w w' := by
  have HP := fun s sum w => c_policy s sum w
  unfold polA Pol.v polV at HP
  have HP := Lib.hid HP
  have HS1 := fun a w h => c_share_ok 45 a 2 2 awP w rfl (by omega) h aw44a
  have HS2 := fun a w h => c_share_ok 200 a 2 2 awP w rfl (by omega) h aw44b
  rw [aw44c] at HS1
  rw [aw44d] at HS2
  unfold ShareOk at HS1 HS2
  have HS1 := Lib.hid HS1
  have HS2 := Lib.hid HS2
  go_enter Try.func27, Try.ntmps27
  go_wp2_with fail
  refine (HP.out _ _ _).mono ?_
  rintro e w1 ⟨rfl, hb1⟩
  have HB1 := Lib.hid hb1
  clear hb1
  go_wp2_with fail
  refine (HP.out _ _ _).mono ?_
  rintro e w2 ⟨rfl, hb2⟩
  have HB2 := Lib.hid (HB1.out.trans (hb2.mono HB1.out.size))
  clear hb2
  go_wp2_with fail
  refine (HS1.out _ _ (awPs (Blk.new _ _ _) rfl)).mono ?_
  rintro e w3 ⟨A3, c3, rfl, hr3, hb3⟩
  have HR3 := Lib.hid hr3
  have HB3 := Lib.hid ((HB2.out.alloc HB2.out.size _).trans (hb3.mono (by have := HB2.out.size; simp; omega)))
  clear hr3 hb3
  go_wp2_with fail
  refine (HP.out _ _ _).mono ?_
  rintro e w4 ⟨rfl, hb4⟩
  have HB4 := Lib.hid (HB3.out.trans (hb4.mono HB3.out.size))
  have HR4 := Lib.hid (HR3.out.below hb4)
  clear hb4
  go_wp2_with fail
  refine (HP.out _ _ _).mono ?_
  rintro e w5 ⟨rfl, hb5⟩
  have HB5 := Lib.hid (HB4.out.trans (hb5.mono HB4.out.size))
  have HR5 := Lib.hid (HR4.out.below hb5)
  clear hb5
  go_wp2_with fail
  refine (HS2.out _ _ (awPs (Blk.new _ _ _) rfl)).mono ?_
  rintro e w6 ⟨A6, c6, rfl, hr6, hb6⟩
  have HS6 := Lib.hid hr6
  have HR6 := Lib.hid ((HR5.out.alloc _).below hb6)
  have HB6 := Lib.hid ((HB5.out.alloc HB5.out.size _).trans (hb6.mono (by have := HB5.out.size; simp; omega)))
  clear hr6 hb6 HR3 HR4 HR5 HB1 HB2 HB3 HB4 HB5 HS1 HS2
  go_wp2_with fail
  have hc := c_same A3 (some ⟨w6.heap.size, 0, none⟩) 2 c3 2 2 [30, 15] [30, 15] (w6.alloc (.cells #[.int .i64 30, .int .i64 15] 2)) rfl rfl (by omega) (by omega) (HR6.out.alloc _) (Rd.cells' (Blk.new _ _ _) rfl)
  rw [show decide (([30, 15] : List Int) = [30, 15]) = true from by decide] at hc
  refine hc.mono ?_
  clear hc
  rintro e w7 ⟨rfl, q, rfl⟩
  generalize hw7 : World.drewN (w6.alloc (.cells #[.int .i64 30, .int .i64 15] 2)) q = w7
  have HB7 := Lib.hid (show Below w.heap.size w w7 from hw7 ▸ below_drewN (HB6.out.alloc HB6.out.size _) q)
  have HS7 := Lib.hid (show Rd w7 A6 (vals .i64 [60, 30]) from hw7 ▸ (HS6.out.alloc _).drewN q)
  clear hw7 HR6 HS6 HB6
  go_wp2_with fail
  have hc := c_same A6 (some ⟨w7.heap.size, 0, none⟩) 2 c6 2 2 [60, 30] [60, 30] (w7.alloc (.cells #[.int .i64 60, .int .i64 30] 2)) rfl rfl (by omega) (by omega) (HS7.out.alloc _) (Rd.cells' (Blk.new _ _ _) rfl)
  rw [show decide (([60, 30] : List Int) = [60, 30]) = true from by decide] at hc
  refine hc.mono ?_
  clear hc
  rintro e w8 ⟨rfl, q2, rfl⟩
  generalize hw8 : World.drewN (w7.alloc (.cells #[.int .i64 60, .int .i64 30] 2)) q2 = w8
  have HB8 := Lib.hid (show Below w.heap.size w w8 from hw8 ▸ below_drewN (HB7.out.alloc HB7.out.size _) q2)
  clear hw8 HS7 HB7
  go_wp2_with fail
  refine (c_new_ok 100 100 w8 (by decide)).mono ?_
  rintro e w9 ⟨rfl, rfl⟩
  have HF9 := Lib.hid (FileAt.new w8 100 100)
  have HB9 := Lib.hid (HB8.out.alloc HB8.out.size (.cells #[.int .i64 100, .int .i64 100, .slice none 0 0, .int .i64 0] 106))
  have hg := HB8.out.size
  generalize w8.alloc (.cells #[.int .i64 100, .int .i64 100, .slice none 0 0, .int .i64 0] 106) = w9 at *
  generalize w8.heap.size = g at *
  go_wp2_with fail
  refine (HP.out _ _ _).mono ?_
  rintro e w10 ⟨rfl, hb10⟩
  have HF10 := Lib.hid (HF9.out.below hb10)
  have HB10 := Lib.hid (HB9.out.trans (hb10.mono HB9.out.size))
  clear hb10
  go_wp2_with fail
  have hcl := c_claim_ok g 100 100 0 none 0 [] nmA (polA nmA 60) w10 HF10.out (FileOk.new (by decide)) (polA_ok _ _ (by decide) _) (by decide) aw44e
  rw [aw44f] at hcl
  unfold ClaimOk Pol.v polV polA at hcl
  refine hcl.mono ?_
  clear hcl
  rintro e w11 ⟨A11, c11, rfl, hf11, hk11, _⟩
  have HF11 := Lib.hid hf11
  have HB11 := Lib.hid (HB10.out.trans (hk11.below hg (by intro k hk; cases hk) HB10.out.size))
  clear hf11 hk11
  go_wp2_with fail
  have hrc := c_recover_ok g 100 100 0 A11 c11 [⟨nmA, 60, 0⟩] 80 w11 HF11.out aw44i (by decide) aw44g
  unfold RecOk at hrc
  rw [aw44h] at hrc
  refine hrc.mono ?_
  clear hrc
  rintro e w12 ⟨A12, c12, rfl, ho12, hf12, hk12⟩
  have hrow := HF11.out.row.own
  have HB12 := Lib.hid (HB11.out.trans (hk12.below hg (by intro k hk; rw [own_any A11 0 0 1 c11] at hk; have := (hrow k hk).1; omega) HB11.out.size))
  obtain ⟨b1, o1, rfl, hb1, x1, x2, x3⟩ := entry_at ho12.rd 0 (by decide)
  obtain ⟨b2, o2, hab, hb2, y1, y2, y3⟩ := entry_at ho12.rd 1 (by decide)
  injection hab with hab
  injection hab with hab1 hab2 _
  subst hab1 hab2
  have HO := Lib.hid ho12
  have x1' : w12.cell? ⟨b1, o1, none⟩ = some (.string ⟨#[97]⟩) := x1
  have x2' : w12.cell? ⟨b1, o1 + 1, none⟩ = some (.string ⟨#[]⟩) := x2
  have x3' : w12.cell? ⟨b1, o1 + 2, none⟩ = some (.int .i64 60) := x3
  have y3' : w12.cell? ⟨b1, o1 + 3 + 2, none⟩ = some (.int .i64 20) := y3
  have y3'' : w12.cell? ⟨b1, o1 + 5, none⟩ = some (.int .i64 20) := y3
  have e5 : ([(nmA, (60 : Int)), (⟨#[]⟩, 20)] : List (ByteArray × Int)).length = 2 := rfl
  clear ho12 hf12 hk12 hrow x1 x2 x3 y1 y2 y3
  go_wp2_with fail
  go_ret
  exact ⟨rfl, HB12.out⟩

end Go.Proofs.Ytbcmaaoddnaoiaa
