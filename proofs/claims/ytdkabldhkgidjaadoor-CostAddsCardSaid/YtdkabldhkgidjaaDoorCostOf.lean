/-
  The reference's Of (layer 20): its walk.
-/
import Derived.Test.YtdkabldhkgidjaaDoorCostR
namespace Go.Proofs.YtdkabldhkgidjaaDoor
set_option linter.unusedVariables false
set_option linter.unusedSimpArgs false
open Go.RowKit

def OfOk (t : Int) (b : Bool) (L : List Cst) (w : World) (e : Ending) (w' : World) : Prop :=
  ∃ A c, e = .returned (.slice A (ofC t b L).length c) ∧ Rd w' A (flat cC (ofC t b L)) ∧ Below w.heap.size w w'
theorem OwnS.emptyC (s : Nat) (w : World) (e : TypeId) (B : Nat) (hB : B ≤ w.heap.size) : OwnS s (w.alloc (.cells #[] e)) B e (some ⟨w.heap.size, 0, none⟩) 0 0 [] :=
  ⟨by simp, .inr ⟨w.heap.size, 0, #[], rfl, hB, heap_alloc_new w _, Nat.le_refl _, by unfold maxLen; omega, by simp, by simp⟩⟩
theorem OwnS.oneC {e : TypeId} {B : Nat} {w : World} {A1 : Option Addr} {X1 : List Cst} {c1 : Nat} {p : Cst} (h : OwnS 3 w B e A1 (X1.length + 1) c1 (flat cC X1 ++ cC p)) : OwnS 3 w B e A1 (X1 ++ [p]).length c1 (flat cC (X1 ++ [p])) := by
  rw [List.length_append, flat_append, flat_one]
  exact h

set_option maxRecDepth 100000 in
set_option maxHeartbeats 3200000 in
theorem c_rcof (t : Int) (b : Bool) (a : Option Addr) (n c : Nat) (L : List Cst) (w : World) (hn : L.length = n) (hm : n ≤ 4096) (hr : Rd w a (flat cC L)) (ht : termB t = true) :
    Calls Tryd.prog 14 #[.int .i64 t, .bool b, .slice a n c] w (OfOk t b L w) := by
  obtain ⟨i0, hi, hz0, hz1, hz2⟩ := info_parts info_cost
  have HI := Lib.hid hi
  have HZ0 := Lib.hid hz0
  have HZ1 := Lib.hid hz1
  have HZ2 := Lib.hid hz2
  have HR := Lib.hid hr
  have HN := Lib.hid hn
  have HCo := Lib.hid (fun w => c_rtermcost t w ht)
  clear hr hn ht hi hz0 hz1 hz2
  go_enter Tryd.func14, Tryd.ntmps14
  go_wp2
  have HE := Lib.hid (OwnS.emptyC 3 w 55 w.heap.size (Nat.le_refl _))
  have HBE := Lib.hid ((Below.refl w.heap.size w).alloc (Nat.le_refl _) (.cells #[] 55))
  go_loopw [7, 8] (fun y x wr => ∃ (k : Nat) (A1 : Option Addr) (c1 : Nat), y = .slice A1 (ofC t b (L.take k)).length c1 ∧ x = .int .i64 k ∧ k ≤ n ∧ Hid (OwnS 3 wr w.heap.size 55 A1 (ofC t b (L.take k)).length c1 (flat cC (ofC t b (L.take k)))) ∧ Hid (Below w.heap.size w wr)) (fun _ x _ => n - (intOf x).toNat)
  case atStart => exact ⟨0, _, 0, rfl, rfl, by omega, HE.out, HBE.out⟩
  case round =>
    obtain ⟨k, A1, c1, rfl, rfl, hk, hO, hB⟩ := hrel
    by_cases hlt2 : k < n
    · have hkL : k < L.length := by rw [HN.out]; exact hlt2
      have HR1 := Lib.hid (HR.out.below hB.out)
      obtain ⟨g, o, rfl, hb, c0', c1', c2'⟩ := cost_at HR1.out k hkL
      have hs1 := ofC_take_succ t b L k hkL
      have hl1 : (ofC t b (L.take k)).length ≤ 4096 := by
        have := List.length_filter_le (fun x => buyB t x == b) (L.take k)
        rw [List.length_take] at this
        unfold ofC; omega
      have hz := hB.out.size
      have hO2 := hO.out
      unfold buyB at hs1
      have HCell := Lib.hid (fun (wx : World) (hb : Below wr.heap.size wr wx) (b' : Nat) (o' : Nat) (h : b' < wr.heap.size) => hb.cell (p := ⟨b', o', none⟩) h)
      clear hO
      generalize ofC t b (L.take k) = X1 at *
      generalize L[k] = p at *
      have HO := Lib.hid hO2
      clear hO2
      obtain ⟨pn, ps, pa⟩ := p
      simp only at c0' c1' c2' hs1
      generalize tcost t = co at *
      have HS1 := Lib.hid hs1
      clear hs1
      by_cases hle : co ≤ ps
      · have t1 : decide (co ≤ ps) = true := decide_eq_true hle
        have T1 := Lib.hid t1
        cases b
        · skip
          go_wp2
          go_region_held3 (fun wx => wx.cell? ⟨g, o + k * 3 + 1, none⟩ = some (.int .i64 ps)) (go_keep) ((go_at_call 24; (with_reducible refine (HCo.out _).mono ?_); rintro e w1 ⟨rfl, hb1⟩; have j0 := (HCell.out _ ((Below.refl wr.heap.size wr).drew.trans hb1) g (o + k * 3) hb).trans c0'; have j1 := (HCell.out _ ((Below.refl wr.heap.size wr).drew.trans hb1) g (o + k * 3 + 1) hb).trans c1'; have j2 := (HCell.out _ ((Below.refl wr.heap.size wr).drew.trans hb1) g (o + k * 3 + 2) hb).trans c2'; have HB1 := Lib.hid (hB.out.drew.trans (hb1.mono hB.out.drew.size)); have HO1 := Lib.hid (HO.out.drew.keep hb1); clear hb1))
          have hs2 := HS1.out
          rw [T1.out, if_neg (by decide), List.append_nil] at hs2
          have HS2 := Lib.hid hs2
          clear hs2
          go_wp2
          go_roundw
          case rel =>
            refine ⟨k + 1, A1, c1, ?_⟩
            rw [HS2.out]
            exact ⟨rfl, by go_num, by omega, HO1.out, HB1.out⟩
          case measure => simp [intOf]; omega
        · skip
          go_wp2
          go_region_held3 (fun wx => wx.cell? ⟨g, o + k * 3 + 1, none⟩ = some (.int .i64 ps)) (go_keep) ((go_at_call 24; (with_reducible refine (HCo.out _).mono ?_); rintro e w1 ⟨rfl, hb1⟩; have j0 := (HCell.out _ ((Below.refl wr.heap.size wr).drew.trans hb1) g (o + k * 3) hb).trans c0'; have j1 := (HCell.out _ ((Below.refl wr.heap.size wr).drew.trans hb1) g (o + k * 3 + 1) hb).trans c1'; have j2 := (HCell.out _ ((Below.refl wr.heap.size wr).drew.trans hb1) g (o + k * 3 + 2) hb).trans c2'; have HB1 := Lib.hid (hB.out.drew.trans (hb1.mono hB.out.drew.size)); have HO1 := Lib.hid (HO.out.drew.keep hb1); clear hb1))
          have hs2 := HS1.out
          rw [T1.out, if_pos (by decide)] at hs2
          have HS2 := Lib.hid hs2
          clear hs2
          have HNew := Lib.hid (show ∀ j u, (cC ⟨pn, ps, pa⟩)[j]? = some u → (w1.alloc (.cells #[.string pn, .int .i64 ps, .int .i64 pa] 55)).cell? ⟨w1.heap.size, 0 + j, none⟩ = some u from fun j u hu => by
            rw [Nat.zero_add]
            exact (Blk.new w1 _ _).cell j (by simpa [cC] using hu))
          have hzw : w.heap.size ≤ (w1.alloc (.cells #[.string pn, .int .i64 ps, .int .i64 pa] 55)).heap.size := (HB1.out.alloc HB1.out.size _).size
          go_wp2_with (at_builtin; refine wpList_appT rfl (.tmp 26) (.tmp 31) _ rfl 3 (by omega) w.heap.size 55 i0 _ 32 Tryd.underlying22 HI.out HZ0.out HZ1.out HZ2.out rfl A1 X1.length c1 (flat cC X1) rfl (HO1.out.alloc _) w1.heap.size 0 1 1 (cC ⟨pn, ps, pa⟩) rfl rfl HNew.out (one_cost _) (by unfold maxLen; omega) (by omega) hzw ?_; intro A' c' w3 hown hg3 hr3; have HO3 := Lib.hid hown; have HB3 := Lib.hid ((HB1.out.alloc HB1.out.size _).trans ((HO1.out.alloc _).belowApp hg3 (Nat.le_refl _) hzw)); clear hown hg3 hr3)
          go_roundw
          case rel =>
            refine ⟨k + 1, A', c', ?_⟩
            rw [HS2.out]
            exact ⟨by rw [List.length_append]; rfl, by go_num, by omega, HO3.out.oneC, HB3.out⟩
          case measure => simp [intOf]; omega
      · have t1 : decide (co ≤ ps) = false := decide_eq_false hle
        have T1 := Lib.hid t1
        cases b
        · skip
          go_wp2
          go_region_held3 (fun wx => wx.cell? ⟨g, o + k * 3 + 1, none⟩ = some (.int .i64 ps)) (go_keep) ((go_at_call 24; (with_reducible refine (HCo.out _).mono ?_); rintro e w1 ⟨rfl, hb1⟩; have j0 := (HCell.out _ ((Below.refl wr.heap.size wr).drew.trans hb1) g (o + k * 3) hb).trans c0'; have j1 := (HCell.out _ ((Below.refl wr.heap.size wr).drew.trans hb1) g (o + k * 3 + 1) hb).trans c1'; have j2 := (HCell.out _ ((Below.refl wr.heap.size wr).drew.trans hb1) g (o + k * 3 + 2) hb).trans c2'; have HB1 := Lib.hid (hB.out.drew.trans (hb1.mono hB.out.drew.size)); have HO1 := Lib.hid (HO.out.drew.keep hb1); clear hb1))
          have hs2 := HS1.out
          rw [T1.out, if_pos (by decide)] at hs2
          have HS2 := Lib.hid hs2
          clear hs2
          have HNew := Lib.hid (show ∀ j u, (cC ⟨pn, ps, pa⟩)[j]? = some u → (w1.alloc (.cells #[.string pn, .int .i64 ps, .int .i64 pa] 55)).cell? ⟨w1.heap.size, 0 + j, none⟩ = some u from fun j u hu => by
            rw [Nat.zero_add]
            exact (Blk.new w1 _ _).cell j (by simpa [cC] using hu))
          have hzw : w.heap.size ≤ (w1.alloc (.cells #[.string pn, .int .i64 ps, .int .i64 pa] 55)).heap.size := (HB1.out.alloc HB1.out.size _).size
          go_wp2_with (at_builtin; refine wpList_appT rfl (.tmp 26) (.tmp 31) _ rfl 3 (by omega) w.heap.size 55 i0 _ 32 Tryd.underlying22 HI.out HZ0.out HZ1.out HZ2.out rfl A1 X1.length c1 (flat cC X1) rfl (HO1.out.alloc _) w1.heap.size 0 1 1 (cC ⟨pn, ps, pa⟩) rfl rfl HNew.out (one_cost _) (by unfold maxLen; omega) (by omega) hzw ?_; intro A' c' w3 hown hg3 hr3; have HO3 := Lib.hid hown; have HB3 := Lib.hid ((HB1.out.alloc HB1.out.size _).trans ((HO1.out.alloc _).belowApp hg3 (Nat.le_refl _) hzw)); clear hown hg3 hr3)
          go_roundw
          case rel =>
            refine ⟨k + 1, A', c', ?_⟩
            rw [HS2.out]
            exact ⟨by rw [List.length_append]; rfl, by go_num, by omega, HO3.out.oneC, HB3.out⟩
          case measure => simp [intOf]; omega
        · skip
          go_wp2
          go_region_held3 (fun wx => wx.cell? ⟨g, o + k * 3 + 1, none⟩ = some (.int .i64 ps)) (go_keep) ((go_at_call 24; (with_reducible refine (HCo.out _).mono ?_); rintro e w1 ⟨rfl, hb1⟩; have j0 := (HCell.out _ ((Below.refl wr.heap.size wr).drew.trans hb1) g (o + k * 3) hb).trans c0'; have j1 := (HCell.out _ ((Below.refl wr.heap.size wr).drew.trans hb1) g (o + k * 3 + 1) hb).trans c1'; have j2 := (HCell.out _ ((Below.refl wr.heap.size wr).drew.trans hb1) g (o + k * 3 + 2) hb).trans c2'; have HB1 := Lib.hid (hB.out.drew.trans (hb1.mono hB.out.drew.size)); have HO1 := Lib.hid (HO.out.drew.keep hb1); clear hb1))
          have hs2 := HS1.out
          rw [T1.out, if_neg (by decide), List.append_nil] at hs2
          have HS2 := Lib.hid hs2
          clear hs2
          go_wp2
          go_roundw
          case rel =>
            refine ⟨k + 1, A1, c1, ?_⟩
            rw [HS2.out]
            exact ⟨rfl, by go_num, by omega, HO1.out, HB1.out⟩
          case measure => simp [intOf]; omega
    · obtain rfl : k = n := by omega
      rw [List.take_of_length_le (by rw [HN.out]; exact Nat.le_refl _)] at hO ⊢
      have HO := Lib.hid hO.out
      clear hO
      go_wp2
      go_ret
      exact ⟨A1, c1, rfl, HO.out.rd, hB.out⟩

end Go.Proofs.YtdkabldhkgidjaaDoor
