/-
  cost.sum, sorted, Split, Sums: their walks.
-/
import Derived.Test.YtdkabldhkgidjaaDoorCost1
import Derived.Test.YtdkabldhkgidjaaDoorAppU
namespace Go.Proofs.YtdkabldhkgidjaaDoor
set_option linter.unusedVariables false
set_option linter.unusedSimpArgs false
open Go.RowKit

def sumC : List Cst → Int
  | [] => 0
  | x :: r => x.am + sumC r
theorem sumC_take_succ (L : List Cst) (k : Nat) (h : k < L.length) : sumC (L.take (k + 1)) = sumC (L.take k) + L[k].am := by
  induction L generalizing k with
  | nil => simp at h
  | cons p r ih =>
    cases k with
    | zero => simp [sumC]
    | succ k =>
      have := ih k (by simpa using h)
      simp only [List.take_succ_cons, sumC, List.getElem_cons_succ]
      omega
theorem sumC_bd {L : List Cst} (h : ∀ x ∈ L, 0 ≤ x.am ∧ x.am ≤ 1099511627776) : 0 ≤ sumC L ∧ sumC L ≤ 1099511627776 * L.length := by
  induction L with
  | nil => simp [sumC]
  | cons p r ih =>
    have h1 := h p (by simp)
    have h2 := ih (fun x hx => h x (List.mem_cons_of_mem _ hx))
    simp only [sumC, List.length_cons]
    omega
theorem oddC_am {L : List Cst} (h : oddC L = false) : ∀ x ∈ L, 0 ≤ x.am ∧ x.am ≤ 1099511627776 := fun x hx => by
  have := costB_t (oddC_false h x hx)
  omega
theorem wrongC_zero {L : List Cst} (h : wrongC L = 0) : oddC L = false ∧ L.length ≤ 4096 := by
  unfold wrongC at h
  cases ho : oddC L
  · rw [ho, if_neg (by decide)] at h
    refine ⟨rfl, ?_⟩
    by_cases h2 : 4096 < L.length
    · rw [if_pos h2] at h; cases h
    · omega
  · rw [ho, if_pos rfl] at h; cases h

set_option maxRecDepth 100000 in
set_option maxHeartbeats 1600000 in
theorem c_costsum (a : Option Addr) (n c : Nat) (L : List Cst) (w : World) (hn : L.length = n) (hm : n ≤ 4096) (hr : Rd w a (flat cC L)) (hb : ∀ x ∈ L, 0 ≤ x.am ∧ x.am ≤ 1099511627776) :
    Calls Tryd.prog 36 #[.slice a n c] w fun e w' => e = .returned (.int .i64 (sumC L)) ∧ Below w.heap.size w w' := by
  have HR := Lib.hid hr
  have HN := Lib.hid hn
  have HBd := Lib.hid (fun k => sumC_bd (L := L.take k) (fun x hx => hb x (List.mem_of_mem_take hx)))
  clear hr hn hb
  go_enter Tryd.func36, Tryd.ntmps36
  go_wp2
  go_loopw [3, 8] (fun s x wr => ∃ (k : Nat) (u : Int), s = .int .i64 u ∧ x = .int .i64 k ∧ k ≤ n ∧ 0 ≤ u ∧ u ≤ 4503599627370496 ∧ Hid (u = sumC (L.take k)) ∧ Hid (Below w.heap.size w wr)) (fun _ x _ => n - (intOf x).toNat)
  case atStart => exact ⟨0, 0, rfl, rfl, by omega, by omega, by omega, rfl, Below.refl _ _⟩
  case round =>
    obtain ⟨k, u, rfl, rfl, hk, u0, u1, hu, hB⟩ := hrel
    by_cases hlt : k < n
    · have hkL : k < L.length := by rw [HN.out]; exact hlt
      obtain ⟨b, o, rfl, hb, c0, c1, c2⟩ := cost_at (HR.out.below hB.out) k hkL
      have hts := sumC_take_succ L k hkL
      have hbd := HBd.out (k + 1)
      rw [List.length_take] at hbd
      have hz := hB.out.size
      have HS := Lib.hid (show u + L[k].am = sumC (L.take (k + 1)) by rw [hts, hu.out])
      have hle : 0 ≤ u + L[k].am ∧ u + L[k].am ≤ 4503599627370496 := by rw [HS.out]; omega
      obtain ⟨l0, l1⟩ := hle
      clear hts hbd
      generalize L[k] = p at *
      obtain ⟨pn, ps, pa⟩ := p
      simp only at c0 c1 c2 l0 l1 HS
      have e1 : IntKind.i64.wrap (u + pa) = u + pa := IntWalk.i64_in _ (by omega)
      go_wp2
      go_roundw
      case rel => exact ⟨k + 1, u + pa, rfl, by go_num, by omega, by omega, by omega, HS.out, hB.out.alloc hz _⟩
      case measure => simp [intOf]; omega
    · obtain rfl : k = n := by omega
      have h1 := hu.out
      rw [List.take_of_length_le (by rw [HN.out]; exact Nat.le_refl _)] at h1
      have H1 := Lib.hid h1
      clear h1 hu
      go_wp2
      go_ret
      exact ⟨ret_i H1.out, hB.out⟩

/-- Does the buyer pay? -/
def buyB (t : Int) (x : Cst) : Bool := decide (tcost t ≤ x.st)
def ofC (t : Int) (b : Bool) (L : List Cst) : List Cst := L.filter fun x => buyB t x == b
theorem ofC_take_succ (t : Int) (b : Bool) (L : List Cst) (k : Nat) (h : k < L.length) : ofC t b (L.take (k + 1)) = ofC t b (L.take k) ++ (if (buyB t L[k] == b) = true then [L[k]] else []) := by
  unfold ofC
  rw [List.take_succ_eq_append_getElem h, List.filter_append]
  by_cases hb : (buyB t L[k] == b) = true
  · rw [if_pos hb]; simp only [List.filter_cons, hb, List.filter_nil, if_true]
  · rw [if_neg hb]; simp only [List.filter_cons, hb, List.filter_nil]; rfl
theorem e_csplit1 : EntersIs 28 := enters_of Tryd.func28 (by kernel_rfl) rfl
set_option maxHeartbeats 800000 in
theorem c_csplit1 (t : Int) (x : Cst) (q : Nat) (w : World) (hT : Tab w) (ht : termB t = true) (hs : 0 ≤ x.st ∧ x.st ≤ 7) (hq : w.cell? ⟨q, 0, none⟩ = some (.int .i64 t)) (hlt : q < w.heap.size) :
    Calls Tryd.prog 28 #[x.v, .pointer (some ⟨q, 0, none⟩)] w fun e w' => e = .returned (.bool (!buyB t x)) ∧ Below w.heap.size w w' := by
  obtain ⟨n, st, am⟩ := x
  have HP := fun w hT => c_tpays t st w hT ht hs
  unfold Cst.v buyB
  have HT := Lib.hid (hT.alloc (.cells #[.string n, .int .i64 st, .int .i64 am] 55))
  have HB0 := Lib.hid ((Below.refl w.heap.size w).alloc (Nat.le_refl _) (.cells #[.string n, .int .i64 st, .int .i64 am] 55))
  simp only at hs
  clear hT ht hs
  by_cases hle : tcost t ≤ st
  · rw [show sideS (tcost t) st = buyerS from if_pos hle] at HP
    have HP := Lib.hid HP
    rw [decide_eq_true hle]
    have t1 : (buyerS.toList == ([115, 101, 108, 108, 101, 114] : List UInt8)) = false := by simp only [ByteArray.toList_eq]; decide
    clear hle
    go_enter Tryd.func28, Tryd.ntmps28
    go_wp2_with (go_at_call 29; (with_reducible refine (HP.out _ HT.out).mono ?_); rintro e w1 ⟨rfl, hb1⟩; have HB := Lib.hid (HB0.out.trans (hb1.mono HB0.out.size)); clear hb1)
    go_ret
    exact ⟨rfl, HB.out⟩
  · rw [show sideS (tcost t) st = sellerS from if_neg hle] at HP
    have HP := Lib.hid HP
    rw [decide_eq_false hle]
    have t1 : (sellerS.toList == ([115, 101, 108, 108, 101, 114] : List UInt8)) = true := by simp only [ByteArray.toList_eq]; decide
    clear hle
    go_enter Tryd.func28, Tryd.ntmps28
    go_wp2_with (go_at_call 29; (with_reducible refine (HP.out _ HT.out).mono ?_); rintro e w1 ⟨rfl, hb1⟩; have HB := Lib.hid (HB0.out.trans (hb1.mono HB0.out.size)); clear hb1)
    go_ret
    exact ⟨rfl, HB.out⟩

theorem info_cost : (Tryd.prog.info? 55).map (fun i => (i.zero, i.size, i.bytes)) = some (some (.agg #[.string ⟨#[]⟩, .int .i64 0, .int .i64 0]), 3, 32) := by kernel_rfl
theorem one_cost (x : Cst) : ∀ u ∈ cC x, u.oneCell' = true := by
  intro u hu
  simp only [cC, List.mem_cons, List.not_mem_nil, or_false] at hu
  rcases hu with rfl | rfl | rfl <;> rfl

end Go.Proofs.YtdkabldhkgidjaaDoor
