/-
  cost.sorted, Split, Sums: their walks.
-/
import Derived.Test.YtdkabldhkgidjaaDoorCost2
namespace Go.Proofs.YtdkabldhkgidjaaDoor
set_option linter.unusedVariables false
set_option linter.unusedSimpArgs false
open Go.RowKit

/-- What sorted gives: the seller's costs, and the buyer's. -/
def SortedOk (t : Int) (L : List Cst) (w : World) (e : Ending) (w' : World) : Prop :=
  ∃ A1 c1 A2 c2, e = .returned (.tuple #[.slice A1 (ofC t false L).length c1, .slice A2 (ofC t true L).length c2]) ∧ Rd w' A1 (flat cC (ofC t false L)) ∧ Rd w' A2 (flat cC (ofC t true L)) ∧ Below w.heap.size w w'
theorem TwoRows.one {s : Nat} {e : TypeId} {B : Nat} {w : World} {A1 A2 : Option Addr} {X1 : List Cst} {c1 n2 c2 : Nat} {xs2 : List Value} {p : Cst} (h : TwoRows s e B w A1 (X1.length + 1) c1 (flat cC X1 ++ cC p) A2 n2 c2 xs2) : TwoRows s e B w A1 (X1 ++ [p]).length c1 (flat cC (X1 ++ [p])) A2 n2 c2 xs2 := by
  rw [List.length_append, flat_append, flat_one]
  exact h

set_option maxRecDepth 100000 in
set_option maxHeartbeats 3200000 in
theorem c_costsorted (t : Int) (a : Option Addr) (n c q : Nat) (L : List Cst) (w : World) (hn : L.length = n) (hm : n ≤ 4096) (hr : Rd w a (flat cC L)) (hok : oddC L = false) (hT : Tab w) (ht : termB t = true) (hq : w.cell? ⟨q, 0, none⟩ = some (.int .i64 t)) (hlt : q < w.heap.size) :
    Calls Tryd.prog 27 #[.slice a n c, .func (.func 28) #[] #[.pointer (some ⟨q, 0, none⟩)]] w (SortedOk t L w) := by
  obtain ⟨i0, hi, hz0, hz1, hz2⟩ := info_parts info_cost
  have HI := Lib.hid hi
  have HZ0 := Lib.hid hz0
  have HZ1 := Lib.hid hz1
  have HZ2 := Lib.hid hz2
  have eg : ∀ args w, (callFunc 28 args).run Tryd.prog w = .ok (.enter 28 args) w := e_csplit1
  have HR := Lib.hid hr
  have HN := Lib.hid hn
  have HT := Lib.hid hT
  have HQ := Lib.hid hq
  have HGood := Lib.hid (fun x hx => costB_t (oddC_false hok x hx))
  have HCl := Lib.hid (fun x w hs hT hq hlt => c_csplit1 t x q w hT ht hs hq hlt)
  clear hr hn hok hT ht hq hi hz0 hz1 hz2
  go_enter Tryd.func27, Tryd.ntmps27
  go_wp2
  go_loopw [4, 5, 10] (fun y z x wr => ∃ (k : Nat) (A1 : Option Addr) (c1 : Nat) (A2 : Option Addr) (c2 : Nat), y = .slice A1 (ofC t false (L.take k)).length c1 ∧ z = .slice A2 (ofC t true (L.take k)).length c2 ∧ x = .int .i64 k ∧ k ≤ n ∧ Hid (TwoRows 3 55 w.heap.size wr A1 (ofC t false (L.take k)).length c1 (flat cC (ofC t false (L.take k))) A2 (ofC t true (L.take k)).length c2 (flat cC (ofC t true (L.take k)))) ∧ Hid (Below w.heap.size w wr)) (fun _ _ x _ => n - (intOf x).toNat)
  case atStart => exact ⟨0, none, 0, none, 0, rfl, rfl, rfl, by omega, TwoRows.nil _ _ _, Below.refl _ _⟩
  case round =>
    obtain ⟨k, A1, c1, A2, c2, rfl, rfl, rfl, hk, hTw, hB⟩ := hrel
    by_cases hlt2 : k < n
    · have hkL : k < L.length := by rw [HN.out]; exact hlt2
      obtain ⟨b, o, rfl, hb, c0', c1', c2'⟩ := cost_at (HR.out.below hB.out) k hkL
      have hs1 := ofC_take_succ t false L k hkL
      have hs2 := ofC_take_succ t true L k hkL
      have hl1 : (ofC t false (L.take k)).length ≤ 4096 := by
        have := List.length_filter_le (fun x => buyB t x == false) (L.take k)
        rw [List.length_take] at this
        unfold ofC; omega
      have hl2 : (ofC t true (L.take k)).length ≤ 4096 := by
        have := List.length_filter_le (fun x => buyB t x == true) (L.take k)
        rw [List.length_take] at this
        unfold ofC; omega
      have hz := hB.out.size
      have hgd := HGood.out _ (List.getElem_mem hkL)
      have hcl := fun (wx : World) hT hq hlt => HCl.out L[k] wx ⟨hgd.1, hgd.2.1⟩ hT hq hlt
      have HS1 := Lib.hid hs1
      have HS2 := Lib.hid hs2
      have hTw2 := hTw.out
      have hqz : q < wr.heap.size := by omega
      clear hs1 hs2 hgd hTw
      generalize ofC t false (L.take k) = X1 at *
      generalize ofC t true (L.take k) = X2 at *
      generalize L[k] = p at *
      have HTw := Lib.hid hTw2
      clear hTw2
      obtain ⟨pn, ps, pa⟩ := p
      unfold Cst.v at hcl
      simp only at c0' c1' c2' hcl
      cases hm : buyB t ⟨pn, ps, pa⟩
      · rw [hm] at hcl
        have hs1 := HS1.out
        have hs2 := HS2.out
        rw [hm, if_pos (by decide)] at hs1
        rw [hm, if_neg (by decide), List.append_nil] at hs2
        clear HS1 HS2 hm
        have HS1 := Lib.hid hs1
        have HS2 := Lib.hid hs2
        clear hs1 hs2
        have HCl1 := Lib.hid hcl
        clear hcl
        go_wp2_with fail
        have HB0 := Lib.hid (hB.out.alloc hz (.cells #[.string pn, .int .i64 ps, .int .i64 pa] 55))
        have BX := Lib.hid (Blk.new wr 55 #[.string pn, .int .i64 ps, .int .i64 pa])
        refine (HCl1.out _ (HT.out.below HB0.out) ((HB0.out.cell (p := ⟨q, 0, none⟩) hlt).trans HQ.out) (by simp; omega)).mono ?_
        rintro e w1 ⟨rfl, hb1⟩
        have HB1 := Lib.hid (HB0.out.trans (hb1.mono HB0.out.size))
        have BX1 := Lib.hid (BX.out.below hb1 BX.out.lt)
        have HTw1 := Lib.hid ((HTw.out.below ((Below.refl wr.heap.size wr).alloc (Nat.le_refl _) (.cells #[.string pn, .int .i64 ps, .int .i64 pa] 55))).below hb1)
        have j0 := BX1.out.cell 0 rfl
        have j1 := BX1.out.cell 1 rfl
        have j2 := BX1.out.cell 2 rfl
        clear hb1 c0' c1' c2'
        have HNew := Lib.hid (show ∀ j u, (cC ⟨pn, ps, pa⟩)[j]? = some u → (w1.alloc (.cells #[.string pn, .int .i64 ps, .int .i64 pa] 55)).cell? ⟨w1.heap.size, 0 + j, none⟩ = some u from fun j u hu => by
          rw [Nat.zero_add]
          exact (Blk.new w1 _ _).cell j (by simpa [cC] using hu))
        have hzw : w.heap.size ≤ (w1.alloc (.cells #[.string pn, .int .i64 ps, .int .i64 pa] 55)).heap.size := (HB1.out.alloc HB1.out.size _).size
        go_wp2_with (at_builtin; refine wpList_appT rfl (.tmp 17) (.tmp 19) _ rfl 3 (by omega) w.heap.size 55 i0 _ 32 Tryd.underlying22 HI.out HZ0.out HZ1.out HZ2.out rfl A1 X1.length c1 (flat cC X1) rfl (HTw1.out.r1.alloc _) w1.heap.size 0 1 1 (cC ⟨pn, ps, pa⟩) rfl rfl HNew.out (one_cost _) (by unfold maxLen; omega) (by omega) hzw ?_; intro A' c' w3 hown hg3 hr3; have HT3 := Lib.hid ((HTw1.out.below ((Below.refl w1.heap.size w1).alloc (Nat.le_refl _) _)).app hown hg3 hr3); have HB3 := Lib.hid ((HB1.out.alloc HB1.out.size _).trans ((HTw1.out.r1.alloc _).belowApp hg3 (Nat.le_refl _) hzw)); clear hown hg3 hr3)
        go_roundw
        case rel =>
          refine ⟨k + 1, A', c', A2, c2, ?_⟩
          rw [HS1.out, HS2.out]
          exact ⟨by rw [List.length_append]; rfl, rfl, by go_num, by omega, HT3.out.one, HB3.out⟩
        case measure => simp [intOf]; omega
      · rw [hm] at hcl
        have hs1 := HS1.out
        have hs2 := HS2.out
        rw [hm, if_neg (by decide), List.append_nil] at hs1
        rw [hm, if_pos (by decide)] at hs2
        clear HS1 HS2 hm
        have HS1 := Lib.hid hs1
        have HS2 := Lib.hid hs2
        clear hs1 hs2
        have HCl1 := Lib.hid hcl
        clear hcl
        go_wp2_with fail
        have HB0 := Lib.hid (hB.out.alloc hz (.cells #[.string pn, .int .i64 ps, .int .i64 pa] 55))
        have BX := Lib.hid (Blk.new wr 55 #[.string pn, .int .i64 ps, .int .i64 pa])
        refine (HCl1.out _ (HT.out.below HB0.out) ((HB0.out.cell (p := ⟨q, 0, none⟩) hlt).trans HQ.out) (by simp; omega)).mono ?_
        rintro e w1 ⟨rfl, hb1⟩
        have HB1 := Lib.hid (HB0.out.trans (hb1.mono HB0.out.size))
        have BX1 := Lib.hid (BX.out.below hb1 BX.out.lt)
        have HTw1 := Lib.hid ((HTw.out.swap.below ((Below.refl wr.heap.size wr).alloc (Nat.le_refl _) (.cells #[.string pn, .int .i64 ps, .int .i64 pa] 55))).below hb1)
        have j0 := BX1.out.cell 0 rfl
        have j1 := BX1.out.cell 1 rfl
        have j2 := BX1.out.cell 2 rfl
        clear hb1 c0' c1' c2'
        have HNew := Lib.hid (show ∀ j u, (cC ⟨pn, ps, pa⟩)[j]? = some u → (w1.alloc (.cells #[.string pn, .int .i64 ps, .int .i64 pa] 55)).cell? ⟨w1.heap.size, 0 + j, none⟩ = some u from fun j u hu => by
          rw [Nat.zero_add]
          exact (Blk.new w1 _ _).cell j (by simpa [cC] using hu))
        have hzw : w.heap.size ≤ (w1.alloc (.cells #[.string pn, .int .i64 ps, .int .i64 pa] 55)).heap.size := (HB1.out.alloc HB1.out.size _).size
        go_wp2_with (at_builtin; refine wpList_appT rfl (.tmp 21) (.tmp 23) _ rfl 3 (by omega) w.heap.size 55 i0 _ 32 Tryd.underlying22 HI.out HZ0.out HZ1.out HZ2.out rfl A2 X2.length c2 (flat cC X2) rfl (HTw1.out.r1.alloc _) w1.heap.size 0 1 1 (cC ⟨pn, ps, pa⟩) rfl rfl HNew.out (one_cost _) (by unfold maxLen; omega) (by omega) hzw ?_; intro A' c' w3 hown hg3 hr3; have HT3 := Lib.hid ((HTw1.out.below ((Below.refl w1.heap.size w1).alloc (Nat.le_refl _) _)).app hown hg3 hr3); have HB3 := Lib.hid ((HB1.out.alloc HB1.out.size _).trans ((HTw1.out.r1.alloc _).belowApp hg3 (Nat.le_refl _) hzw)); clear hown hg3 hr3)
        go_roundw
        case rel =>
          refine ⟨k + 1, A1, c1, A', c', ?_⟩
          rw [HS1.out, HS2.out]
          exact ⟨rfl, by rw [List.length_append]; rfl, by go_num, by omega, HT3.out.one.swap, HB3.out⟩
        case measure => simp [intOf]; omega
    · obtain rfl : k = n := by omega
      rw [List.take_of_length_le (by rw [HN.out]; exact Nat.le_refl _)] at hTw ⊢
      have HTw := Lib.hid hTw.out
      clear hTw
      go_wp2
      go_ret2
      exact ⟨A1, c1, A2, c2, rfl, HTw.out.r1.rd, HTw.out.r2.rd, hB.out⟩

/-- What Split gives. -/
def splitE (t : Int) (L : List Cst) : Int := if termB t = true then wrongC L else 1
def CSplitOk (t : Int) (L : List Cst) (w : World) (e : Ending) (w' : World) : Prop :=
  ∃ A1 c1 A2 c2, e = .returned (.tuple #[.slice A1 (ofC t false L).length c1, .slice A2 (ofC t true L).length c2, .int .i64 0]) ∧ Rd w' A1 (flat cC (ofC t false L)) ∧ Rd w' A2 (flat cC (ofC t true L)) ∧ Below w.heap.size w w'
set_option maxRecDepth 100000 in
set_option maxHeartbeats 1600000 in
theorem c_csplit_bad (t : Int) (a : Option Addr) (n c : Nat) (L : List Cst) (w : World) (hn : L.length = n) (hm : n ≤ 9223372036854775807) (hr : Rd w a (flat cC L)) (hok : ∀ x ∈ L, CstOk x) (hT : Tab w) (he : splitE t L ≠ 0) :
    Calls Tryd.prog 11 #[.int .i64 t, .slice a n c] w fun e w' => e = .returned (.tuple #[.slice none 0 0, .slice none 0 0, .int .i64 (splitE t L)]) ∧ Below w.heap.size w w' := by
  have HNm := fun w hT => c_termname t w hT
  have HW := Lib.hid (fun w hr => c_costwrong a n c L w hn hm hr hok)
  have HR := Lib.hid (hr.alloc (.cells #[.int .i64 t] 3))
  have HT := Lib.hid (hT.alloc (.cells #[.int .i64 t] 3))
  have HB0 := Lib.hid ((Below.refl w.heap.size w).alloc (Nat.le_refl _) (.cells #[.int .i64 t] 3))
  have hem := tname_empty t
  obtain ⟨E, hE⟩ : ∃ E, E = splitE t L := ⟨_, rfl⟩
  rw [← hE] at he ⊢
  unfold splitE at hE
  clear hr hT hn hok
  cases htm : termB t
  · rw [htm] at hE hem
    rw [if_neg (by decide)] at hE
    subst hE
    have t1 : ((tname t).toList == ([] : List UInt8)) = true := by rw [hem.2 rfl]; rfl
    have t2 : (tname t).toList = [] := hem.2 rfl
    have t3 : (tname t).toList.isEmpty = true := by rw [t2]; rfl
    have T2 := Lib.hid t2
    clear hem htm t2
    generalize tname t = nm at *
    have HNm := Lib.hid HNm
    go_enter Tryd.func11, Tryd.ntmps11
    go_wp2_with fail
    refine (HNm.out _ HT.out).mono ?_
    rintro e w1 ⟨rfl, hb1⟩
    have HB1 := Lib.hid (HB0.out.trans (hb1.mono HB0.out.size))
    clear hb1
    go_wp2_with fail
    go_ret3
    exact ⟨rfl, HB1.out⟩
  · rw [htm] at hE hem
    rw [if_pos rfl] at hE
    have t2 : (tname t).toList ≠ [] := fun h => by have := hem.1 h; cases this
    have t1 : ((tname t).toList == ([] : List UInt8)) = false := by simpa using t2
    have t3 : (tname t).toList.isEmpty = false := by simpa using t2
    have T2 := Lib.hid t2
    rw [← hE] at HW
    have t4 : (E != 0) = true := by simpa using he
    have HE := Lib.hid he
    clear hem htm t2 hE he
    generalize tname t = nm at *
    have HNm := Lib.hid HNm
    go_enter Tryd.func11, Tryd.ntmps11
    go_wp2_with fail
    refine (HNm.out _ HT.out).mono ?_
    rintro e w1 ⟨rfl, hb1⟩
    have HB1 := Lib.hid (HB0.out.trans (hb1.mono HB0.out.size))
    have HR1 := Lib.hid (HR.out.below hb1)
    clear hb1
    go_wp2_with fail
    refine (HW.out _ HR1.out).mono ?_
    rintro e w2 ⟨rfl, hb2⟩
    have HB2 := Lib.hid (HB1.out.trans (hb2.mono HB1.out.size))
    clear hb2
    go_wp2_with fail
    go_ret3
    exact ⟨rfl, HB2.out⟩
set_option maxRecDepth 100000 in
set_option maxHeartbeats 1600000 in
theorem c_csplit (t : Int) (a : Option Addr) (n c : Nat) (L : List Cst) (w : World) (hn : L.length = n) (hr : Rd w a (flat cC L)) (hok : ∀ x ∈ L, CstOk x) (hT : Tab w) (he : splitE t L = 0) :
    Calls Tryd.prog 11 #[.int .i64 t, .slice a n c] w (CSplitOk t L w) := by
  have htm : termB t = true := by
    cases h : termB t
    · unfold splitE at he; rw [h] at he; cases he
    · rfl
  have hwr : wrongC L = 0 := by unfold splitE at he; rw [if_pos htm] at he; exact he
  obtain ⟨hod, hm⟩ := wrongC_zero hwr
  rw [hn] at hm
  have HNm := fun w hT => c_termname t w hT
  have HW := fun w hr => c_costwrong a n c L w hn (by omega) hr hok
  rw [hwr] at HW
  have HS := Lib.hid (fun q w hr hT hq hlt => c_costsorted t a n c q L w hn hm hr hod hT htm hq hlt)
  unfold SortedOk at HS
  unfold CSplitOk
  generalize ofC t false L = X1 at *
  generalize ofC t true L = X2 at *
  have HW := Lib.hid HW
  have HR := Lib.hid (hr.alloc (.cells #[.int .i64 t] 3))
  have HT := Lib.hid (hT.alloc (.cells #[.int .i64 t] 3))
  have BQ := Lib.hid (Blk.new w 3 #[.int .i64 t])
  have HB0 := Lib.hid ((Below.refl w.heap.size w).alloc (Nat.le_refl _) (.cells #[.int .i64 t] 3))
  have hem := tname_empty t
  rw [htm] at hem
  have t2 : (tname t).toList ≠ [] := fun h => by have := hem.1 h; cases this
  have t1 : ((tname t).toList == ([] : List UInt8)) = false := by simpa using t2
  have t3 : (tname t).toList.isEmpty = false := by simpa using t2
  have T2 := Lib.hid t2
  clear hr hT hn hok hem htm t2 he hwr hod
  generalize tname t = nm at *
  have HNm := Lib.hid HNm
  go_enter Tryd.func11, Tryd.ntmps11
  go_wp2_with fail
  refine (HNm.out _ HT.out).mono ?_
  rintro e w1 ⟨rfl, hb1⟩
  have HB1 := Lib.hid (HB0.out.trans (hb1.mono HB0.out.size))
  have HR1 := Lib.hid (HR.out.below hb1)
  have HT1 := Lib.hid (HT.out.below hb1)
  have BQ1 := Lib.hid (BQ.out.below hb1 BQ.out.lt)
  clear hb1
  go_wp2_with fail
  refine (HW.out _ HR1.out).mono ?_
  rintro e w2 ⟨rfl, hb2⟩
  have HB2 := Lib.hid (HB1.out.trans (hb2.mono HB1.out.size))
  have HR2 := Lib.hid (HR1.out.below hb2)
  have HT2 := Lib.hid (HT1.out.below hb2)
  have BQ2 := Lib.hid (BQ1.out.below hb2 BQ1.out.lt)
  clear hb2
  go_wp2_with fail
  refine (HS.out _ _ HR2.out HT2.out (BQ2.out.cell 0 rfl) BQ2.out.lt).mono ?_
  rintro e w3 ⟨A1, c1, A2, c2, rfl, hr1, hr2, hb3⟩
  have HB3 := Lib.hid (HB2.out.trans (hb3.mono HB2.out.size))
  have HQ := Lib.hid (And.intro hr1 hr2)
  clear hb3 hr1 hr2
  go_wp2_with fail
  go_ret3
  exact ⟨A1, c1, A2, c2, rfl, HQ.out.1, HQ.out.2, HB3.out⟩

/-- May costs be summed? -/
def sumsB (L : List Cst) : Bool := decide (wrongC L = 0) && decide (sumC L ≤ 1099511627776)
set_option maxRecDepth 100000 in
set_option maxHeartbeats 1600000 in
theorem c_costsums (a : Option Addr) (n c : Nat) (L : List Cst) (w : World) (hn : L.length = n) (hm : n ≤ 9223372036854775807) (hr : Rd w a (flat cC L)) (hok : ∀ x ∈ L, CstOk x) :
    Calls Tryd.prog 20 #[.slice a n c] w fun e w' => e = .returned (.tuple #[.int .i64 (if sumsB L = true then sumC L else 0), .bool (sumsB L)]) ∧ Below w.heap.size w w' := by
  have HW := fun w hr => c_costwrong a n c L w hn hm hr hok
  have HR := Lib.hid hr
  by_cases hw : wrongC L = 0
  · obtain ⟨hod, hm2⟩ := wrongC_zero hw
    rw [hn] at hm2
    have HS := fun w hr => c_costsum a n c L w hn hm2 hr (oddC_am hod)
    rw [hw] at HW
    have HW := Lib.hid HW
    unfold sumsB
    rw [decide_eq_true hw, Bool.true_and]
    clear hr hn hok hw hod
    generalize sumC L = S at *
    have HS := Lib.hid HS
    by_cases hle : S ≤ 1099511627776
    · rw [decide_eq_true hle, if_pos rfl]
      go_enter Tryd.func20, Tryd.ntmps20
      go_wp2_with fail
      refine (HW.out _ HR.out).mono ?_
      rintro e w1 ⟨rfl, hb1⟩
      go_wp2_with fail
      refine (HS.out _ (HR.out.below hb1)).mono ?_
      rintro e w2 ⟨rfl, hb2⟩
      have HB2 := Lib.hid (hb1.trans (hb2.mono hb1.size))
      clear hb1 hb2
      go_wp2_with fail
      refine (HS.out _ (HR.out.below HB2.out)).mono ?_
      rintro e w3 ⟨rfl, hb3⟩
      have HB3 := Lib.hid (HB2.out.trans (hb3.mono HB2.out.size))
      clear hb3
      go_wp2_with fail
      go_ret2
      exact ⟨rfl, HB3.out⟩
    · rw [decide_eq_false hle, if_neg (by decide)]
      go_enter Tryd.func20, Tryd.ntmps20
      go_wp2_with fail
      refine (HW.out _ HR.out).mono ?_
      rintro e w1 ⟨rfl, hb1⟩
      go_wp2_with fail
      refine (HS.out _ (HR.out.below hb1)).mono ?_
      rintro e w2 ⟨rfl, hb2⟩
      have HB2 := Lib.hid (hb1.trans (hb2.mono hb1.size))
      clear hb1 hb2
      go_wp2_with fail
      go_ret2
      exact ⟨rfl, HB2.out⟩
  · have t1 : (wrongC L != 0) = true := by simpa using hw
    unfold sumsB
    rw [decide_eq_false hw, Bool.false_and, if_neg (by decide)]
    have HX := Lib.hid hw
    clear hr hn hok hw
    generalize wrongC L = E at *
    have HW := Lib.hid HW
    go_enter Tryd.func20, Tryd.ntmps20
    go_wp2_with fail
    refine (HW.out _ HR.out).mono ?_
    rintro e w1 ⟨rfl, hb1⟩
    go_wp2_with fail
    go_ret2
    exact ⟨rfl, hb1⟩

end Go.Proofs.YtdkabldhkgidjaaDoor
