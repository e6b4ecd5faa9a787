/-
  claim.New, File.Claim: their walks.
-/
import Derived.Test.YtbcmaaoddnaoiaaClFile
import Derived.Test.YtbcmaaoddnaoiaaAppT
namespace Go.Proofs.Ytbcmaaoddnaoiaa
set_option linter.unusedVariables false
set_option linter.unusedSimpArgs false
open Go.RowKit

/-- May a file be? -/
def newB (loss value : Int) : Bool := decide (1 ≤ value ∧ value ≤ 1099511627776 ∧ 0 ≤ loss ∧ loss ≤ value)
set_option maxHeartbeats 400000 in
theorem c_new_ok (loss value : Int) (w : World) (h : newB loss value = true) :
    Calls Try.prog 32 #[.int .i64 loss, .int .i64 value] w fun e w' => e = .returned (.tuple #[.pointer (some ⟨w.heap.size, 0, none⟩), .int .i64 0]) ∧ w' = w.alloc (.cells #[.int .i64 loss, .int .i64 value, .slice none 0 0, .int .i64 0] 106) := by
  unfold newB at h
  simp only [decide_eq_true_eq] at h
  obtain ⟨h1, h2, h3, h4⟩ := h
  go_enter Try.func32, Try.ntmps32
  go_wp2
  go_ret2
  exact ⟨rfl, rfl⟩
set_option maxHeartbeats 800000 in
theorem c_new_bad (loss value : Int) (w : World) (h : newB loss value = false) :
    Calls Try.prog 32 #[.int .i64 loss, .int .i64 value] w fun e w' => e = .returned (.tuple #[.pointer none, .int .i64 1]) ∧ w = w' := by
  unfold newB at h
  simp only [decide_eq_false_iff_not] at h
  by_cases h1 : 1 ≤ value
  · by_cases h2 : value ≤ 1099511627776
    · by_cases h3 : 0 ≤ loss
      · have h4 : ¬ loss ≤ value := fun h4 => h ⟨h1, h2, h3, h4⟩
        clear h
        go_enter Try.func32, Try.ntmps32
        go_wp2
        go_ret2
        exact ⟨rfl, rfl⟩
      · clear h
        go_enter Try.func32, Try.ntmps32
        go_wp2
        go_ret2
        exact ⟨rfl, rfl⟩
    · clear h
      go_enter Try.func32, Try.ntmps32
      go_wp2
      go_ret2
      exact ⟨rfl, rfl⟩
  · clear h
    go_enter Try.func32, Try.ntmps32
    go_wp2
    go_ret2
    exact ⟨rfl, rfl⟩
theorem FileAt.new (w : World) (loss value : Int) : FileAt (w.alloc (.cells #[.int .i64 loss, .int .i64 value, .slice none 0 0, .int .i64 0] 106)) w.heap.size loss value 0 none 0 [] :=
  ⟨Blk.new _ _ _, OwnS.nil _ _ _⟩
theorem FileOk.new {loss value : Int} (h : newB loss value = true) : FileOk loss value 0 [] := by
  unfold newB at h
  simp only [decide_eq_true_eq] at h
  exact ⟨⟨h.1, h.2.1⟩, ⟨h.2.2.1, h.2.2.2⟩, Int.le_refl _, (fun x hx => by cases hx), by simp only [sumP]; omega⟩

theorem bytes_eq' {s t : ByteArray} (h : s.data.toList = t.data.toList) : s = t := by
  cases s; cases t; congr 1; exact Array.ext' h
/-- The same text? -/
def sameB (s t : ByteArray) : Bool := s.toList == t.toList
theorem sameB_iff {s t : ByteArray} : sameB s t = true ↔ s = t := by
  unfold sameB
  rw [beq_iff_eq]
  constructor
  · intro h
    exact bytes_eq' (by simpa [ByteArray.toList_eq] using h)
  · rintro rfl; rfl
/-- Has somebody paid? -/
def hasP (P : List Pmt) (s : ByteArray) : Bool := P.any fun p => sameB p.n s
theorem hasP_take_succ (P : List Pmt) (s : ByteArray) (k : Nat) (h : k < P.length) : hasP (P.take (k + 1)) s = (hasP (P.take k) s || sameB P[k].n s) := by
  unfold hasP
  rw [List.take_succ_eq_append_getElem h, List.any_append]
  simp
theorem hasP_take_true {P : List Pmt} {s : ByteArray} {k : Nat} (h : hasP (P.take k) s = true) : hasP P s = true := by
  unfold hasP at h ⊢
  rw [List.any_eq_true] at h ⊢
  obtain ⟨p, hp, h⟩ := h
  exact ⟨p, List.mem_of_mem_take hp, h⟩
theorem e_claim1 : EntersIs 70 := enters_of Try.func70 (by kernel_rfl) rfl
set_option maxHeartbeats 400000 in
theorem c_claim1 (n s : ByteArray) (paid back : Int) (q : Nat) (w : World) (hq : w.cell? ⟨q, 0, none⟩ = some (.string s)) (hlt : q < w.heap.size) :
    Calls Try.prog 70 #[.agg #[.string n, .int .i64 paid, .int .i64 back], .pointer (some ⟨q, 0, none⟩)] w fun e w' => e = .returned (.bool (sameB n s)) ∧ Below w.heap.size w w' := by
  unfold sameB
  go_enter Try.func70, Try.ntmps70
  go_wp2
  go_ret
  exact ⟨rfl, (Below.refl _ _).alloc (Nat.le_refl _) _⟩

set_option maxRecDepth 100000 in
set_option maxHeartbeats 1600000 in
theorem c_mindex (a : Option Addr) (n c q : Nat) (P : List Pmt) (s : ByteArray) (w : World) (hn : P.length = n) (hm : n ≤ 9223372036854775807) (hr : Rd w a (cellsM P)) (hq : w.cell? ⟨q, 0, none⟩ = some (.string s)) (hlt : q < w.heap.size) :
    Calls Try.prog 94 #[.slice a n c, .func (.func 70) #[] #[.pointer (some ⟨q, 0, none⟩)]] w (IdxPost w (hasP P s)) := by
  have eg : ∀ args w, (callFunc 70 args).run Try.prog w = .ok (.enter 70 args) w := e_claim1
  have HR := Lib.hid hr
  have HN := Lib.hid hn
  have HQ := Lib.hid hq
  clear hr hn hq
  go_enter Try.func94, Try.ntmps94
  go_wp2
  go_loopw [8] (fun x wr => ∃ k : Nat, x = .int .i64 k ∧ k ≤ n ∧ Hid (hasP (P.take k) s = false) ∧ Hid (Below w.heap.size w wr)) (fun x _ => n - (intOf x).toNat)
  case atStart => exact ⟨0, rfl, by omega, rfl, Below.refl _ _⟩
  case round =>
    obtain ⟨k, rfl, hk, hO, hB⟩ := hrel
    by_cases hlt2 : k < n
    · have hkP : k < P.length := by rw [HN.out]; exact hlt2
      obtain ⟨b, o, rfl, hb, c0, c1, c2⟩ := pmt_at (HR.out.below hB.out) k hkP
      have hts := hasP_take_succ P s k hkP
      rw [hO.out, Bool.false_or] at hts
      have hz := hB.out.size
      have hcl := c_claim1 P[k].n s P[k].paid P[k].back q wr ((hB.out.cell (p := ⟨q, 0, none⟩) hlt).trans HQ.out) (by omega)
      have hfull := Lib.hid (fun h => hasP_take_true (P := P) (s := s) (k := k + 1) h)
      have HTs := Lib.hid hts
      clear hts hO
      generalize P[k] = p at *
      obtain ⟨pn, pp, pb⟩ := p
      simp only at c0 c1 c2 hcl HTs
      cases hm : sameB pn s
      · rw [hm] at hcl
        have HT := Lib.hid (show hasP (P.take (k + 1)) s = false by rw [HTs.out, hm])
        have HCl := Lib.hid hcl
        clear hcl hm
        go_wp2_with (go_at_call 70; (with_reducible refine HCl.out.mono ?_); rintro e w1 ⟨rfl, hb1⟩; have HB := Lib.hid (hB.out.trans (hb1.mono hz)); clear hb1)
        go_roundw
        case rel => exact ⟨k + 1, by go_num, by omega, HT.out, HB.out⟩
        case measure => simp [intOf]; omega
      · rw [hm] at hcl
        have HF := Lib.hid (show hasP P s = true from hfull.out (by rw [HTs.out, hm]))
        have HCl := Lib.hid hcl
        clear hcl hm
        go_wp2_with (go_at_call 70; (with_reducible refine HCl.out.mono ?_); rintro e w1 ⟨rfl, hb1⟩; have HB := Lib.hid (hB.out.trans (hb1.mono hz)); clear hb1)
        go_ret
        exact ⟨_, rfl, by rw [HF.out]; simp, HB.out⟩
    · obtain rfl : k = n := by omega
      have h1 := hO.out
      rw [List.take_of_length_le (by rw [HN.out]; exact Nat.le_refl _)] at h1
      have H1 := Lib.hid h1
      clear h1 hO
      go_wp2
      go_ret
      exact ⟨_, rfl, by rw [H1.out]; simp, hB.out⟩

set_option maxHeartbeats 400000 in
theorem c_mcontains (a : Option Addr) (n c q : Nat) (P : List Pmt) (s : ByteArray) (w : World) (hn : P.length = n) (hm : n ≤ 9223372036854775807) (hr : Rd w a (cellsM P)) (hq : w.cell? ⟨q, 0, none⟩ = some (.string s)) (hlt : q < w.heap.size) :
    Calls Try.prog 69 #[.slice a n c, .func (.func 70) #[] #[.pointer (some ⟨q, 0, none⟩)]] w fun e w' => e = .returned (.bool (hasP P s)) ∧ Below w.heap.size w w' := by
  have HI := Lib.hid (c_mindex a n c q P s w hn hm hr hq hlt)
  unfold IdxPost at HI
  clear hn hr hq
  generalize hasP P s = b at *
  go_enter Try.func69, Try.ntmps69
  go_wp2_with fail
  refine HI.out.mono ?_
  rintro e w1 ⟨r, rfl, hr, hb⟩
  have HR := Lib.hid hr
  clear hr
  go_wp2_with fail
  go_ret
  exact ⟨ret_b HR.out, hb⟩

end Go.Proofs.Ytbcmaaoddnaoiaa
