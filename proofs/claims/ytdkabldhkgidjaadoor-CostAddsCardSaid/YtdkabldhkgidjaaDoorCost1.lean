/-
  Costs in memory; cost.may, wrong: their walks.
-/
import Derived.Test.YtdkabldhkgidjaaDoorTerm
import Derived.Test.YtdkabldhkgidjaaDoorFlat
import Derived.Test.YtdkabldhkgidjaaDoorName
namespace Go.Proofs.YtdkabldhkgidjaaDoor
set_option linter.unusedVariables false
set_option linter.unusedSimpArgs false
open Go.RowKit

/-- A cost. -/
structure Cst where
  n : ByteArray
  st : Int
  am : Int
def Cst.v (x : Cst) : Value := .agg #[.string x.n, .int .i64 x.st, .int .i64 x.am]
def cC (x : Cst) : List Value := [.string x.n, .int .i64 x.st, .int .i64 x.am]
theorem cC_length (x : Cst) : (cC x).length = 3 := rfl
theorem cost_at {w : World} {a : Option Addr} {L : List Cst} (h : Rd w a (flat cC L)) (k : Nat) (hk : k < L.length) :
    ∃ b o, a = some ⟨b, o, none⟩ ∧ b < w.heap.size ∧ w.cell? ⟨b, o + k * 3, none⟩ = some (.string L[k].n) ∧ w.cell? ⟨b, o + k * 3 + 1, none⟩ = some (.int .i64 L[k].st) ∧ w.cell? ⟨b, o + k * 3 + 2, none⟩ = some (.int .i64 L[k].am) := by
  obtain ⟨b, o, e, hb, hr⟩ := flat_at cC_length h (by omega) k hk
  exact ⟨b, o, e, hb, hr 0 _ rfl, hr 1 _ rfl, hr 2 _ rfl⟩
/-- A name no longer than may be. -/
def CstOk (x : Cst) : Prop := x.n.size ≤ 9223372036854775807
/-- May a cost be? -/
def costB (x : Cst) : Bool := nameB x.n && decide (0 ≤ x.st ∧ x.st ≤ 7 ∧ 0 ≤ x.am ∧ x.am ≤ 1099511627776)
theorem costB_t {x : Cst} (h : costB x = true) : 0 ≤ x.st ∧ x.st ≤ 7 ∧ 0 ≤ x.am ∧ x.am ≤ 1099511627776 := by
  unfold costB at h
  rw [Bool.and_eq_true] at h
  exact of_decide_eq_true h.2
set_option maxHeartbeats 800000 in
theorem c_costmay (x : Cst) (w : World) (hx : CstOk x) : Calls Tryd.prog 39 #[x.v] w fun e w' => e = .returned (.bool (costB x)) ∧ Below w.heap.size w w' := by
  obtain ⟨n, st, am⟩ := x
  have HN := fun w => c_mname n w hx
  unfold costB Cst.v
  clear hx
  simp only
  generalize nameB n = M at *
  cases M
  · have HN := Lib.hid HN
    go_enter Tryd.func39, Tryd.ntmps39
    go_wp2_with (go_at_call 56; (with_reducible refine (HN.out _).mono ?_); rintro e w' ⟨rfl, rfl⟩)
    go_ret
    exact ⟨rfl, by go_grown⟩
  · have HN := Lib.hid HN
    go_enter Tryd.func39, Tryd.ntmps39
    go_wp2_with (go_at_call 56; (with_reducible refine (HN.out _).mono ?_); rintro e w' ⟨rfl, rfl⟩)
    all_goals
      go_ret
      exact ⟨ret_b (Bool.eq_iff_iff.2 (by simp; try omega)), by go_grown⟩
set_option maxHeartbeats 400000 in
theorem c_costodd (x : Cst) (w : World) (hx : CstOk x) : Calls Tryd.prog 38 #[x.v] w fun e w' => e = .returned (.bool (!costB x)) ∧ Below w.heap.size w w' := by
  have HM := Lib.hid (fun w => c_costmay x w hx)
  clear hx
  generalize costB x = M at *
  unfold Cst.v at HM ⊢
  go_enter Tryd.func38, Tryd.ntmps38
  go_wp2_with (go_at_call 39; (with_reducible refine (HM.out _).mono ?_); rintro e w1 ⟨rfl, hb1⟩; have HB := Lib.hid (((Below.refl w.heap.size w).alloc (Nat.le_refl _) _).trans (hb1.mono (by simp))); clear hb1)
  go_ret
  exact ⟨rfl, HB.out⟩
theorem e_costodd : EntersIs 38 := enters_of Tryd.func38 (by kernel_rfl) rfl
/-- Is one not as it may be? -/
def oddC (L : List Cst) : Bool := L.any fun x => !costB x
theorem oddC_take_succ (L : List Cst) (k : Nat) (h : k < L.length) : oddC (L.take (k + 1)) = (oddC (L.take k) || !costB L[k]) := by
  unfold oddC
  rw [List.take_succ_eq_append_getElem h, List.any_append]
  simp
theorem oddC_take_true {L : List Cst} {k : Nat} (h : oddC (L.take k) = true) : oddC L = true := by
  unfold oddC at h ⊢
  rw [List.any_eq_true] at h ⊢
  obtain ⟨p, hp, h⟩ := h
  exact ⟨p, List.mem_of_mem_take hp, h⟩
theorem oddC_false {L : List Cst} (h : oddC L = false) : ∀ x ∈ L, costB x = true := by
  unfold oddC at h
  rw [List.any_eq_false] at h
  intro x hx
  have := h x hx
  simpa using this
/-- IndexFunc's answer. -/
def IdxPost (w : World) (b : Bool) (e : Ending) (w' : World) : Prop := ∃ r : Int, e = .returned (.int .i64 r) ∧ decide (0 ≤ r) = b ∧ Below w.heap.size w w'
set_option maxRecDepth 100000 in
set_option maxHeartbeats 1600000 in
theorem c_costindex (a : Option Addr) (n c : Nat) (L : List Cst) (w : World) (hn : L.length = n) (hm : n ≤ 9223372036854775807) (hr : Rd w a (flat cC L)) (hok : ∀ x ∈ L, CstOk x) :
    Calls Tryd.prog 57 #[.slice a n c, .func (.func 38) #[] #[]] w (IdxPost w (oddC L)) := by
  have eg : ∀ args w, (callFunc 38 args).run Tryd.prog w = .ok (.enter 38 args) w := e_costodd
  have HR := Lib.hid hr
  have HN := Lib.hid hn
  have HOk := Lib.hid hok
  have HO := Lib.hid (fun x w h => c_costodd x w h)
  unfold Cst.v at HO
  clear hr hn hok
  go_enter Tryd.func57, Tryd.ntmps57
  go_wp2
  go_loopw [8] (fun x wr => ∃ k : Nat, x = .int .i64 k ∧ k ≤ n ∧ Hid (oddC (L.take k) = false) ∧ Hid (Below w.heap.size w wr)) (fun x _ => n - (intOf x).toNat)
  case atStart => exact ⟨0, rfl, by omega, rfl, Below.refl _ _⟩
  case round =>
    obtain ⟨k, rfl, hk, hO, hB⟩ := hrel
    by_cases hlt : k < n
    · have hkL : k < L.length := by rw [HN.out]; exact hlt
      obtain ⟨b, o, rfl, hb, c0, c1, c2⟩ := cost_at (HR.out.below hB.out) k hkL
      have hts := oddC_take_succ L k hkL
      rw [hO.out, Bool.false_or] at hts
      have hodd := HO.out L[k] wr (HOk.out _ (List.getElem_mem hkL))
      have hfull := Lib.hid (fun h => oddC_take_true (L := L) (k := k + 1) h)
      have hz := hB.out.size
      have HTs := Lib.hid hts
      clear hts hO
      generalize L[k] = p at *
      have HOd := Lib.hid hodd
      clear hodd
      cases hm : costB p
      · have hod := HOd.out
        rw [hm] at hod
        have HF := Lib.hid (show oddC L = true from hfull.out (by rw [HTs.out, hm]; rfl))
        have HOd := Lib.hid hod
        clear hod hm
        go_wp2_with (go_at_call 38; (with_reducible refine HOd.out.mono ?_); rintro e w1 ⟨rfl, hb1⟩; have HB := Lib.hid (hB.out.trans (hb1.mono hz)); clear hb1)
        go_ret
        exact ⟨_, rfl, by rw [HF.out]; simp, HB.out⟩
      · have hod := HOd.out
        rw [hm] at hod
        have HT := Lib.hid (show oddC (L.take (k + 1)) = false by rw [HTs.out, hm]; rfl)
        have HOd := Lib.hid hod
        clear hod hm
        go_wp2_with (go_at_call 38; (with_reducible refine HOd.out.mono ?_); rintro e w1 ⟨rfl, hb1⟩; have HB := Lib.hid (hB.out.trans (hb1.mono hz)); clear hb1)
        go_roundw
        case rel => exact ⟨k + 1, by go_num, by omega, HT.out, HB.out⟩
        case measure => simp [intOf]; omega
    · obtain rfl : k = n := by omega
      have h1 := hO.out
      rw [List.take_of_length_le (by rw [HN.out]; exact Nat.le_refl _)] at h1
      have H1 := Lib.hid h1
      clear h1 hO
      go_wp2
      go_ret
      exact ⟨_, rfl, by rw [H1.out]; simp, hB.out⟩
set_option maxHeartbeats 400000 in
theorem c_costcontains (a : Option Addr) (n c : Nat) (L : List Cst) (w : World) (hn : L.length = n) (hm : n ≤ 9223372036854775807) (hr : Rd w a (flat cC L)) (hok : ∀ x ∈ L, CstOk x) :
    Calls Tryd.prog 40 #[.slice a n c, .func (.func 38) #[] #[]] w fun e w' => e = .returned (.bool (oddC L)) ∧ Below w.heap.size w w' := by
  have HI := Lib.hid (c_costindex a n c L w hn hm hr hok)
  unfold IdxPost at HI
  clear hn hr hok
  generalize oddC L = b at *
  go_enter Tryd.func40, Tryd.ntmps40
  go_wp2_with fail
  refine HI.out.mono ?_
  rintro e w1 ⟨r, rfl, hr, hb⟩
  have HR := Lib.hid hr
  clear hr
  go_wp2_with fail
  go_ret
  exact ⟨ret_b HR.out, hb⟩
/-- What is wrong with costs: nothing is 0. -/
def wrongC (L : List Cst) : Int := if oddC L = true then 1 else if 4096 < L.length then 7 else 0
set_option maxHeartbeats 400000 in
theorem c_costwrong (a : Option Addr) (n c : Nat) (L : List Cst) (w : World) (hn : L.length = n) (hm : n ≤ 9223372036854775807) (hr : Rd w a (flat cC L)) (hok : ∀ x ∈ L, CstOk x) :
    Calls Tryd.prog 26 #[.slice a n c] w fun e w' => e = .returned (.int .i64 (wrongC L)) ∧ Below w.heap.size w w' := by
  have HC := c_costcontains a n c L w hn hm hr hok
  unfold wrongC
  rw [hn]
  clear hn hr hok
  cases hb : oddC L
  · rw [hb] at HC
    have HC := Lib.hid HC
    clear hb
    by_cases h1 : 4096 < n
    · go_enter Tryd.func26, Tryd.ntmps26
      go_wp2_with fail
      refine HC.out.mono ?_
      rintro e w1 ⟨rfl, hb⟩
      go_wp2_with fail
      go_ret
      exact ⟨rfl, hb⟩
    · go_enter Tryd.func26, Tryd.ntmps26
      go_wp2_with fail
      refine HC.out.mono ?_
      rintro e w1 ⟨rfl, hb⟩
      go_wp2_with fail
      go_ret
      exact ⟨rfl, hb⟩
  · rw [hb] at HC
    have HC := Lib.hid HC
    clear hb
    go_enter Tryd.func26, Tryd.ntmps26
    go_wp2_with fail
    refine HC.out.mono ?_
    rintro e w1 ⟨rfl, hb⟩
    go_wp2_with fail
    go_ret
    exact ⟨rfl, hb⟩

end Go.Proofs.YtdkabldhkgidjaaDoor
