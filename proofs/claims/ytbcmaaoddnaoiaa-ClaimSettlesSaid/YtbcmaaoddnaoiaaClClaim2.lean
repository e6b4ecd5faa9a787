/-
  File.Claim: its walk.
-/
import Derived.Test.YtbcmaaoddnaoiaaClClaim
import Derived.Test.YtbcmaaoddnaoiaaClShare
import Derived.StillTailTactics
namespace Go.Proofs.Ytbcmaaoddnaoiaa
set_option linter.unusedVariables false
set_option linter.unusedSimpArgs false
open Go.RowKit

/-- What is wrong with a claim: nothing is 0. -/
def claimE (P : List Pmt) (s : ByteArray) (p : Pol) : Int := if p.may = false then 1 else if sameB s p.i = false then 8 else if hasP P s = true then 5 else 0
/-- What is paid. -/
def claimN (loss value back : Int) (P : List Pmt) (p : Pol) : Int := min (p.pays loss value) (loss - sumP P - back)
theorem sameB_spell {s t : ByteArray} {b : Bool} (h : sameB s t = b) : (s.toList == t.toList) = b ∧ (s.toList != t.toList) = !b := by
  unfold sameB at h
  exact ⟨h, by rw [bne, h]⟩

set_option maxRecDepth 100000 in
set_option maxHeartbeats 3200000 in
theorem c_claim_bad (g : Nat) (loss value back : Int) (A : Option Addr) (c : Nat) (P : List Pmt) (s : ByteArray) (p : Pol) (w : World) (h : FileAt w g loss value back A c P) (hp : PolOk w p) (hm : P.length ≤ 4000) (he : claimE P s p ≠ 0) :
    Calls Try.prog 34 #[.pointer (some ⟨g, 0, none⟩), .string s, p.v] w fun e w' => e = .returned (.tuple #[.int .i64 0, .int .i64 (claimE P s p)]) ∧ Below w.heap.size w w' := by
  have HM := fun w h => c_pmayP p w h
  have HF := Lib.hid h
  have HP := Lib.hid hp
  unfold Pol.v polV at HM ⊢
  clear h hp
  obtain ⟨E, hE⟩ : ∃ E, E = claimE P s p := ⟨_, rfl⟩
  rw [← hE] at he ⊢
  unfold claimE at hE
  cases hmay : p.may
  · rw [hmay] at hE HM
    obtain rfl : E = 1 := by simpa using hE
    have HM := Lib.hid HM
    clear hmay hE he
    go_enter Try.func34, Try.ntmps34
    go_wp2_with fail
    refine (HM.out _ (HP.out.below (((Below.refl _ _).alloc (Nat.le_refl _) _).alloc (by simp) _))).mono ?_
    rintro e w1 ⟨rfl, hb1⟩
    have HB := Lib.hid ((((Below.refl w.heap.size w).alloc (Nat.le_refl _) _).alloc (by simp) _).trans (hb1.mono (by simp; omega)))
    clear hb1
    go_wp2_with fail
    go_ret2
    exact ⟨rfl, HB.out⟩
  · rw [hmay] at HM
    have HM := Lib.hid HM
    cases hs : sameB s p.i
    · rw [hmay, hs] at hE
      obtain rfl : E = 8 := by simpa using hE
      obtain ⟨t1, t2⟩ := sameB_spell hs
      clear hmay hE he hs
      go_enter Try.func34, Try.ntmps34
      go_wp2_with fail
      refine (HM.out _ (HP.out.below (((Below.refl _ _).alloc (Nat.le_refl _) _).alloc (by simp) _))).mono ?_
      rintro e w1 ⟨rfl, hb1⟩
      have k4 := (((Blk.new w 9 #[.string s]).alloc (.cells #[.string p.i, .string p.f, .string p.t, .int .i64 p.sum, .int .i64 p.own, .slice p.ca p.cn p.cc, .int .i64 p.first, .int .i64 p.last, .int .i64 p.share] 57)).below hb1 (by simp; omega)).cell 0 rfl
      have k5 := ((Blk.at (w.alloc (.cells #[.string s] 9)) 57 #[.string p.i, .string p.f, .string p.t, .int .i64 p.sum, .int .i64 p.own, .slice p.ca p.cn p.cc, .int .i64 p.first, .int .i64 p.last, .int .i64 p.share] (n := w.heap.size + 1) (by simp)).below hb1 (by simp)).cell 0 rfl
      have HB := Lib.hid ((((Below.refl w.heap.size w).alloc (Nat.le_refl _) _).alloc (by simp) _).trans (hb1.mono (by simp; omega)))
      clear hb1
      go_wp2_with fail
      go_ret2
      exact ⟨rfl, HB.out⟩
    · cases hh : hasP P s
      · rw [hmay, hs, hh] at hE
        exact absurd hE he
      · rw [hmay, hs, hh] at hE
        obtain rfl : E = 5 := by simpa using hE
        obtain ⟨t1, t2⟩ := sameB_spell hs
        have HC := fun q w hr hq hlt => c_mcontains A P.length c q P s w rfl (by omega) hr hq hlt
        rw [hh] at HC
        have HC := Lib.hid HC
        clear hmay hE he hs hh
        go_enter Try.func34, Try.ntmps34
        go_wp2_with fail
        refine (HM.out _ (HP.out.below (((Below.refl _ _).alloc (Nat.le_refl _) _).alloc (by simp) _))).mono ?_
        rintro e w1 ⟨rfl, hb1⟩
        have k4 := (((Blk.new w 9 #[.string s]).alloc (.cells #[.string p.i, .string p.f, .string p.t, .int .i64 p.sum, .int .i64 p.own, .slice p.ca p.cn p.cc, .int .i64 p.first, .int .i64 p.last, .int .i64 p.share] 57)).below hb1 (by simp; omega)).cell 0 rfl
        have k5 := ((Blk.at (w.alloc (.cells #[.string s] 9)) 57 #[.string p.i, .string p.f, .string p.t, .int .i64 p.sum, .int .i64 p.own, .slice p.ca p.cn p.cc, .int .i64 p.first, .int .i64 p.last, .int .i64 p.share] (n := w.heap.size + 1) (by simp)).below hb1 (by simp)).cell 0 rfl
        have HB := Lib.hid ((((Below.refl w.heap.size w).alloc (Nat.le_refl _) _).alloc (by simp) _).trans (hb1.mono (by simp; omega)))
        have HF1 := Lib.hid (((HF.out.alloc (.cells #[.string s] 9)).alloc (.cells #[.string p.i, .string p.f, .string p.t, .int .i64 p.sum, .int .i64 p.own, .slice p.ca p.cn p.cc, .int .i64 p.first, .int .i64 p.last, .int .i64 p.share] 57)).below hb1)
        have k2 := HF1.out.blk.cell 2 rfl
        have hz1 : w.heap.size < w1.heap.size := by have := hb1.size; simp at this; omega
        clear hb1
        go_wp2_with fail
        refine (HC.out _ _ HF1.out.row.rd k4 hz1).mono ?_
        rintro e w2 ⟨rfl, hb2⟩
        have HB2 := Lib.hid (HB.out.trans (hb2.mono (by omega)))
        clear hb2
        go_wp2_with fail
        go_ret2
        exact ⟨rfl, HB2.out⟩

/-- A claim that is paid. -/
def ClaimOk (g : Nat) (loss value back : Int) (A : Option Addr) (P : List Pmt) (w : World) (s : ByteArray) (n : Int) (e : Ending) (w' : World) : Prop :=
  ∃ A' c', e = .returned (.tuple #[.int .i64 n, .int .i64 0]) ∧ FileAt w' g loss value back A' c' (P ++ [⟨s, n, 0⟩]) ∧ Kept g (Value.slice A 0 0).ownBlock w w' ∧ ((Value.slice A' 0 0).ownBlock = (Value.slice A 0 0).ownBlock ∨ ∃ x, (Value.slice A' 0 0).ownBlock = some x ∧ w.heap.size ≤ x)
theorem info_pmt : (Try.prog.info? 110).map (fun i => (i.zero, i.size, i.bytes)) = some (some (.agg #[.string ⟨#[]⟩, .int .i64 0, .int .i64 0]), 3, 32) := by kernel_rfl
theorem one_pmt (d : Pmt) : ∀ u ∈ cellsM [d], u.oneCell' = true := by
  intro u hu
  simp [cellsM] at hu
  rcases hu with rfl | rfl | rfl <;> rfl
theorem Pol.tells_t {p : Pol} {loss value : Int} (h : p.may = true) (hv : 1 ≤ value ∧ value ≤ 1099511627776) (hl : 0 ≤ loss ∧ loss ≤ value) : p.tells loss value = true := by
  unfold Pol.may at h
  unfold Pol.tells tellsP
  rw [h]
  have : wB value 1 1099511627776 = true := by unfold wB; simp; omega
  rw [this]
  have : wB loss 0 1099511627776 = true := by unfold wB; simp; omega
  rw [this]
  rfl
theorem Pol.pays_bd {p : Pol} {loss value : Int} (h : p.may = true) (hv : 1 ≤ value ∧ value ≤ 1099511627776) (hl : 0 ≤ loss ∧ loss ≤ value) : 0 ≤ p.pays loss value ∧ p.pays loss value ≤ loss ∧ p.pays loss value ≤ p.sum := by
  obtain ⟨⟨s0, s1⟩, ⟨o0, o1⟩, ⟨h0, h1⟩⟩ := Pol.may_facts h
  unfold Pol.pays paysP
  have m0 : 1 ≤ min value p.sum := by omega
  have hsc := scaled_bd (min loss value) (min value p.sum) value (by omega) (by omega) (by omega) hv.1
  have hsc2 : min loss value * min value p.sum / value ≤ min value p.sum := by
    have h1 : min loss value * min value p.sum ≤ value * min value p.sum := Int.mul_le_mul_of_nonneg_right (by omega) (by omega)
    have h2 := Int.ediv_le_ediv (show 0 < value by omega) h1
    rwa [Int.mul_ediv_cancel_left _ (by omega)] at h2
  generalize min loss value * min value p.sum / value = q at *
  have r2 : 0 ≤ max (q - p.own) 0 * p.share := Int.mul_nonneg (by omega) (by omega)
  have r3 : max (q - p.own) 0 * p.share ≤ max (q - p.own) 0 * 1000 := Int.mul_le_mul_of_nonneg_left h1 (by omega)
  omega

set_option maxRecDepth 100000 in
set_option maxHeartbeats 6400000 in
theorem c_claim_ok (g : Nat) (loss value back : Int) (A : Option Addr) (c : Nat) (P : List Pmt) (s : ByteArray) (p : Pol) (w : World) (h : FileAt w g loss value back A c P) (hok : FileOk loss value back P) (hp : PolOk w p) (hm : P.length ≤ 4000) (he : claimE P s p = 0) :
    Calls Try.prog 34 #[.pointer (some ⟨g, 0, none⟩), .string s, p.v] w (ClaimOk g loss value back A P w s (claimN loss value back P p)) := by
  obtain ⟨i0, hi, hz0, hz1, hz2⟩ := info_parts info_pmt
  have HI := Lib.hid hi
  have HZ0 := Lib.hid hz0
  have HZ1 := Lib.hid hz1
  have HZ2 := Lib.hid hz2
  unfold claimE at he
  have hmay : p.may = true := by
    cases hx : p.may
    · rw [hx] at he; simp at he
    · rfl
  have hs : sameB s p.i = true := by
    cases hx : sameB s p.i
    · rw [hmay, hx] at he; simp at he
    · rfl
  have hh : hasP P s = false := by
    cases hx : hasP P s
    · rfl
    · rw [hmay, hs, hx] at he; simp at he
  have HM := fun w h => c_pmayP p w h
  rw [hmay] at HM
  have HPay := fun w h => c_ppaysP p loss value w h
  rw [Pol.tells_t hmay hok.v hok.l, if_pos rfl] at HPay
  have HL := Lib.hid (fun A c w h => c_left g loss value back A c P w h hok (by omega))
  have HC := fun q w hr hq hlt => c_mcontains A P.length c q P s w rfl (by omega) hr hq hlt
  rw [hh] at HC
  have HC := Lib.hid HC
  obtain ⟨t1, t2⟩ := sameB_spell hs
  have HF := Lib.hid h
  have HP := Lib.hid hp
  unfold Pol.v polV at HM HPay ⊢
  have HM := Lib.hid HM
  have HPay := Lib.hid HPay
  obtain ⟨y0, y1, y2⟩ := Pol.pays_bd hmay hok.v hok.l
  obtain ⟨v0, v1⟩ := hok.v
  obtain ⟨l0, l1⟩ := hok.l
  have b0 := hok.b
  have s0 := hok.s
  unfold claimN
  generalize p.pays loss value = py at *
  generalize sumP P = S at *
  have hcl := own_any A P.length c 0 0
  have HCl := Lib.hid hcl
  obtain ⟨m, hmm⟩ : ∃ m, m = P.length := ⟨_, rfl⟩
  have HN := Lib.hid hmm
  rw [← hmm] at hm
  clear hi hz0 hz1 hz2 h hok hp he hmay hs hh hcl hmm
  go_enter Try.func34, Try.ntmps34
  go_wp2_with fail
  refine (HM.out _ (HP.out.below (((Below.refl _ _).alloc (Nat.le_refl _) _).alloc (by simp) _))).mono ?_
  rintro e w1 ⟨rfl, hb1⟩
  have B4 := Lib.hid (((Blk.new w 9 #[.string s]).alloc (.cells #[.string p.i, .string p.f, .string p.t, .int .i64 p.sum, .int .i64 p.own, .slice p.ca p.cn p.cc, .int .i64 p.first, .int .i64 p.last, .int .i64 p.share] 57)).below hb1 (by simp; omega))
  have B5 := Lib.hid ((Blk.at (w.alloc (.cells #[.string s] 9)) 57 #[.string p.i, .string p.f, .string p.t, .int .i64 p.sum, .int .i64 p.own, .slice p.ca p.cn p.cc, .int .i64 p.first, .int .i64 p.last, .int .i64 p.share] (n := w.heap.size + 1) (by simp)).below hb1 (by simp))
  have k4 := B4.out.cell 0 rfl
  have k5 := B5.out.cell 0 rfl
  have HB := Lib.hid ((((Below.refl w.heap.size w).alloc (Nat.le_refl _) _).alloc (by simp) _).trans (hb1.mono (by simp; omega)))
  have HF1 := Lib.hid (((HF.out.alloc (.cells #[.string s] 9)).alloc (.cells #[.string p.i, .string p.f, .string p.t, .int .i64 p.sum, .int .i64 p.own, .slice p.ca p.cn p.cc, .int .i64 p.first, .int .i64 p.last, .int .i64 p.share] 57)).below hb1)
  have k2 := HF1.out.blk.cell 2 rfl
  have hz1 : w.heap.size + 1 < w1.heap.size := by have := hb1.size; simp at this; omega
  clear hb1
  go_wp2_with fail
  refine (HC.out _ _ HF1.out.row.rd k4 (by omega)).mono ?_
  rintro e w2 ⟨rfl, hb2⟩
  have HB2 := Lib.hid (HB.out.trans (hb2.mono (by omega)))
  have HF2 := Lib.hid (HF1.out.below hb2)
  have C4 := Lib.hid (B4.out.below hb2 B4.out.lt)
  have C5 := Lib.hid (B5.out.below hb2 B5.out.lt)
  have hz2 := hb2.size
  clear hb2 k4 k5 k2 B4 B5 HF1 HB
  have k2 := HF2.out.blk.cell 2 rfl
  have j0 := HF2.out.blk.cell 0 rfl
  have j1 := HF2.out.blk.cell 1 rfl
  have g0 := C5.out.cell 0 rfl
  have g1 := C5.out.cell 1 rfl
  have g2 := C5.out.cell 2 rfl
  have g3 := C5.out.cell 3 rfl
  have g4 := C5.out.cell 4 rfl
  have g5 := C5.out.cell 5 rfl
  have g6 := C5.out.cell 6 rfl
  have g7 := C5.out.cell 7 rfl
  have g8 := C5.out.cell 8 rfl
  rw [← HN.out] at k2
  go_wp2
  go_cut [8] (fun x wx => x = .int .i64 py ∧ Hid (Below w.heap.size w wx) ∧ Hid (FileAt wx g loss value back A c P) ∧ Hid (Blk wx w.heap.size 9 #[.string s]) ∧ w2.heap.size ≤ wx.heap.size)
  case first =>
    go_region_with (go_at_call 71; (with_reducible refine (HPay.out _ (HP.out.below (HB2.out.drew))).mono ?_); rintro e w3 ⟨rfl, hb3⟩; have HB3 := Lib.hid (HB2.out.drew.trans (hb3.mono HB2.out.drew.size)); have HF3 := Lib.hid (HF2.out.drew.below hb3); have D4 := Lib.hid (C4.out.drew.below hb3 C4.out.drew.lt); have hz3 : w2.heap.size ≤ w3.heap.size := hb3.size; clear hb3)
    all_goals
      go_wp2_with fail
      go_meet
      exact ⟨rfl, HB3, HF3, D4, hz3⟩
  case rest =>
  obtain ⟨rfl, HB3, HF3, D4, hz3⟩ := hcut
  generalize hw3 : wc = w3 at *
  clear hw3 k2 j0 j1 g0 g1 g2 g3 g4 g5 g6 g7 g8 HF2 HB2 C4 C5
  go_wp2_with fail
  refine (HL.out _ _ _ HF3.out).mono ?_
  rintro e w4 ⟨rfl, hb4⟩
  have HB4 := Lib.hid (HB3.out.trans (hb4.mono HB3.out.size))
  have HF4 := Lib.hid (HF3.out.below hb4)
  have E4 := Lib.hid (D4.out.below hb4 D4.out.lt)
  have hz4 := hb4.size
  clear hb4 HF3 HB3 D4
  have hlt := HF4.out.blk.lt
  have k2 := HF4.out.blk.cell 2 rfl
  have k4 := E4.out.cell 0 rfl
  rw [← HN.out] at k2
  generalize hnn : min py (loss - S - back) = nn at *
  have n0 : 0 ≤ nn := by omega
  have hne : g ≠ w4.heap.size := by omega
  go_wp2_with fail
  have HOw := Lib.hid (show OwnS 3 w4 (g + 1) 110 A m c (cellsM P) from HN.out ▸ HF4.out.row)
  have HNe := Lib.hid (show some g ≠ (Value.slice A m c).ownBlock from fun h => by have := (HOw.out.own g h.symm).1; omega)
  have HNew := Lib.hid (show ∀ j u, (cellsM [⟨s, nn, 0⟩])[j]? = some u → (w4.alloc (.cells #[.string s, .int .i64 nn, .int .i64 0] 110)).drew.cell? ⟨w4.heap.size, 0 + j, none⟩ = some u from fun j u hu => by
    rw [Nat.zero_add]
    exact (Blk.new w4 _ _).drew.cell j (by simpa [cellsM] using hu))
  go_region_law ((with_reducible refine step_appT (o := ⟨some 59, _, _, _, _, _⟩) ?_ (.tmp 54) (.tmp 58) 104 ?_ 3 (by omega) (g + 1) 110 i0 _ 32 Try.underlying104 HI.out HZ0.out HZ1.out HZ2.out ?_ A m c (cellsM P) ?_ ?_ w4.heap.size 0 1 1 (cellsM [⟨s, nn, 0⟩]) ?_ ?_ ?_ ?_ ?_ ?_ ?_ ?_); (focus rfl); (focus rfl); (focus rfl); (focus (simp [go_sem]; done)); (focus exact (HOw.out.alloc _).drew); (focus (simp [go_sem]; done)); (focus rfl); (focus exact HNew.out); (focus exact one_pmt _); (focus (unfold maxLen; omega)); (focus omega); (focus (first | (simp; done) | (simp; omega))); (intro A' c' w5 hown hg5 hrow); (go_must (have HOwn := Lib.hid hown)); (go_must (have HG5 := Lib.hid hg5)); (go_must (have HRow := Lib.hid hrow)); (go_must (have B5 := Lib.hid ((HF4.out.blk.alloc _).drew.grown hg5 HNe.out))); (go_must (have k3 := B5.out.cell 2 rfl)); (go_must (have kf3 := B5.out.free 2)); (clear hown hg5 hrow))
  all_goals
    have hfin := Lib.hid (show FileAt (w5.setCell ⟨g, 2, none⟩ (.slice A' (m + 1) c')) g loss value back A' c' (P ++ [⟨s, nn, 0⟩]) from by
      have e4 : (P ++ [(⟨s, nn, 0⟩ : Pmt)]).length = m + 1 := by simp [HN.out]
      refine ⟨?_, ?_⟩
      · rw [e4]
        exact B5.out.set 2 _
      · rw [e4, cellsM_append]
        exact HOwn.out.far (by simp) _)
    have hkept := Lib.hid (show Kept g (Value.slice A 0 0).ownBlock w (w5.setCell ⟨g, 2, none⟩ (.slice A' (m + 1) c')) from by
      have r1 : Kept g (Value.slice A 0 0).ownBlock w (w4.alloc (.cells #[.string s, .int .i64 nn, .int .i64 0] 110)).drew := Kept.of_below ((HB4.out.alloc HB4.out.size _).drew)
      have r2 := r1.trans (Kept.of_grown (g := g) HG5.out) (.inl (own_any A m c 0 0))
      exact r2.trans (Kept.of_set 2 _) (.inl rfl))
    have hrow := Lib.hid (show (Value.slice A' 0 0).ownBlock = (Value.slice A 0 0).ownBlock ∨ ∃ x, (Value.slice A' 0 0).ownBlock = some x ∧ w.heap.size ≤ x from by
      have hr := HRow.out
      rw [own_any A' _ c' 0 0, own_any A _ c 0 0] at hr
      have hz := HB4.out.size
      exact hr.imp id fun h => ⟨_, h, by simp; omega⟩)
    go_wp2
    go_ret2
    exact ⟨A', c', rfl, hfin.out, hkept.out, hrow.out⟩

end Go.Proofs.Ytbcmaaoddnaoiaa
