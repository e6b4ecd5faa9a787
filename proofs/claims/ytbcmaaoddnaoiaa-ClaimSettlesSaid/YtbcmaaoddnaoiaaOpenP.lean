/-
  policy.Open: its walk.
-/
import Derived.Test.YtbcmaaoddnaoiaaDraws
namespace Go.Proofs.Ytbcmaaoddnaoiaa
set_option linter.unusedVariables false
set_option linter.unusedSimpArgs false
open Go.RowKit

def lateD (first last : Int) (d : Int × Int) : Bool := decide (d.1 < first) || decide (last < d.1)
def lateB (first last : Int) (L : List (Int × Int)) : Bool := L.any (lateD first last)
theorem lateB_take_succ (first last : Int) (L : List (Int × Int)) (k : Nat) (h : k < L.length) : lateB first last (L.take (k + 1)) = (lateB first last (L.take k) || lateD first last L[k]) := by
  unfold lateB
  rw [List.take_succ_eq_append_getElem h, List.any_append]
  simp
theorem lateB_take_true {first last : Int} {L : List (Int × Int)} {k : Nat} (h : lateB first last (L.take k) = true) : lateB first last L = true := by
  unfold lateB at h ⊢
  rw [List.any_eq_true] at h ⊢
  obtain ⟨p, hp, h⟩ := h
  exact ⟨p, List.mem_of_mem_take hp, h⟩
/-- All that is drawn. -/
def sumD : List (Int × Int) → Int
  | [] => 0
  | p :: r => p.2 + sumD r
theorem sumD_take_succ (L : List (Int × Int)) (k : Nat) (h : k < L.length) : sumD (L.take (k + 1)) = sumD (L.take k) + L[k].2 := by
  induction L generalizing k with
  | nil => simp at h
  | cons p r ih =>
    cases k with
    | zero => simp [sumD]
    | succ k =>
      have := ih k (by simpa using h)
      simp only [List.take_succ_cons, sumD, List.getElem_cons_succ]
      omega
theorem sumD_le {L : List (Int × Int)} (h : ∀ p ∈ L, 0 ≤ p.2) (k : Nat) : 0 ≤ sumD (L.take k) ∧ sumD (L.take k) ≤ sumD L := by
  induction L generalizing k with
  | nil => simp [sumD]
  | cons p r ih =>
    have h1 := h p (by simp)
    have hr := fun x hx => h x (List.mem_cons_of_mem _ hx)
    cases k with
    | zero =>
      have := ih hr r.length
      rw [List.take_length] at this
      simp only [List.take_zero, sumD]
      omega
    | succ k =>
      have := ih hr k
      simp only [List.take_succ_cons, sumD]
      omega
theorem draws_pos {L : List (Int × Int)} (h : drawsB L = true) : ∀ p ∈ L, 1 ≤ p.2 ∧ p.2 ≤ 1099511627776 ∧ 0 ≤ p.1 ∧ p.1 ≤ 1048576 := by
  intro p hp
  obtain ⟨k, hk, rfl⟩ := List.getElem_of_mem hp
  unfold drawsB at h
  simp only [decide_eq_true_eq] at h
  have := h k hk
  rw [amW_get L k hk, dyW_get L k hk] at this
  omega
/-- What is wrong with a cover that runs out: nothing is 0. -/
def openE (p : Pol) (L : List (Int × Int)) : Int := if p.may = false ∨ drawsB L = false then 1 else if lateB p.first p.last L = true then 11 else if p.sum < sumD L then 10 else 0
def openN (p : Pol) (L : List (Int × Int)) : Int := if openE p L = 0 then p.sum - sumD L else 0

theorem e_open1 : EntersIs 102 := enters_of Try.func102 (by kernel_rfl) rfl
set_option maxHeartbeats 800000 in
theorem c_open1 (d : Int × Int) (q : Nat) (first last : Int) (w : World) (h6 : w.cell? ⟨q, 6, none⟩ = some (.int .i64 first)) (h7 : w.cell? ⟨q, 7, none⟩ = some (.int .i64 last)) (hlt : q < w.heap.size) :
    Calls Try.prog 102 #[.agg #[.int .i64 d.1, .int .i64 d.2], .pointer (some ⟨q, 0, none⟩)] w fun e w' => e = .returned (.bool (lateD first last d)) ∧ Below w.heap.size w w' := by
  obtain ⟨dy, am⟩ := d
  unfold lateD
  by_cases h1 : dy < first
  · go_enter Try.func102, Try.ntmps102
    go_wp2
    go_ret
    exact ⟨ret_b (by simp [h1]), (Below.refl _ _).alloc (Nat.le_refl _) _⟩
  · go_enter Try.func102, Try.ntmps102
    go_wp2
    go_ret
    exact ⟨ret_b (by rw [show decide (dy < first) = false from decide_eq_false (by omega)]; simp), (Below.refl _ _).alloc (Nat.le_refl _) _⟩

set_option maxRecDepth 100000 in
set_option maxHeartbeats 1600000 in
theorem c_dindex (a : Option Addr) (n c q : Nat) (L : List (Int × Int)) (first last : Int) (w : World) (hn : L.length = n) (hm : n ≤ 9223372036854775807) (hr : Rd w a (cellsW L)) (h6 : w.cell? ⟨q, 6, none⟩ = some (.int .i64 first)) (h7 : w.cell? ⟨q, 7, none⟩ = some (.int .i64 last)) (hlt : q < w.heap.size) :
    Calls Try.prog 120 #[.slice a n c, .func (.func 102) #[] #[.pointer (some ⟨q, 0, none⟩)]] w (IdxPost w (lateB first last L)) := by
  have eg : ∀ args w, (callFunc 102 args).run Try.prog w = .ok (.enter 102 args) w := e_open1
  have HR := Lib.hid hr
  have HN := Lib.hid hn
  have HQ := Lib.hid (And.intro h6 h7)
  clear hr hn h6 h7
  go_enter Try.func120, Try.ntmps120
  go_wp2
  go_loopw [8] (fun x wr => ∃ k : Nat, x = .int .i64 k ∧ k ≤ n ∧ Hid (lateB first last (L.take k) = false) ∧ Hid (Below w.heap.size w wr)) (fun x _ => n - (intOf x).toNat)
  case atStart => exact ⟨0, rfl, by omega, rfl, Below.refl _ _⟩
  case round =>
    obtain ⟨k, rfl, hk, hO, hB⟩ := hrel
    by_cases hlt2 : k < n
    · have hkP : k < L.length := by rw [HN.out]; exact hlt2
      obtain ⟨b, o, rfl, hb, c0, c1, hall⟩ := draw_at (HR.out.below hB.out) k hkP
      have hts := lateB_take_succ first last L k hkP
      rw [hO.out, Bool.false_or] at hts
      have hz := hB.out.size
      have hcl := c_open1 L[k] q first last wr ((hB.out.cell (p := ⟨q, 6, none⟩) hlt).trans HQ.out.1) ((hB.out.cell (p := ⟨q, 7, none⟩) hlt).trans HQ.out.2) (by omega)
      have hfull := Lib.hid (fun h => lateB_take_true (first := first) (last := last) (L := L) (k := k + 1) h)
      have HTs := Lib.hid hts
      clear hts hO hall
      generalize L[k] = p at *
      cases hm : lateD first last p
      · rw [hm] at hcl
        have HT := Lib.hid (show lateB first last (L.take (k + 1)) = false by rw [HTs.out, hm])
        have HCl := Lib.hid hcl
        clear hcl hm
        go_wp2_with (go_at_call 102; (with_reducible refine HCl.out.mono ?_); rintro e w1 ⟨rfl, hb1⟩; have HB := Lib.hid (hB.out.trans (hb1.mono hz)); clear hb1)
        go_roundw
        case rel => exact ⟨k + 1, by go_num, by omega, HT.out, HB.out⟩
        case measure => simp [intOf]; omega
      · rw [hm] at hcl
        have HF := Lib.hid (show lateB first last L = true from hfull.out (by rw [HTs.out, hm]))
        have HCl := Lib.hid hcl
        clear hcl hm
        go_wp2_with (go_at_call 102; (with_reducible refine HCl.out.mono ?_); rintro e w1 ⟨rfl, hb1⟩; have HB := Lib.hid (hB.out.trans (hb1.mono hz)); clear hb1)
        go_ret
        exact ⟨_, rfl, by rw [HF.out]; simp, HB.out⟩
    · obtain rfl : k = n := by omega
      have h1 := hO.out
      rw [List.take_of_length_le (by rw [HN.out]; exact Nat.le_refl _)] at h1
      have H1 := Lib.hid h1
      clear h1 hO
      go_wp2
      go_ret
      exact ⟨_, rfl, by rw [H1.out]; simp, hB.out⟩

set_option maxHeartbeats 400000 in
theorem c_dcontains (a : Option Addr) (n c q : Nat) (L : List (Int × Int)) (first last : Int) (w : World) (hn : L.length = n) (hm : n ≤ 9223372036854775807) (hr : Rd w a (cellsW L)) (h6 : w.cell? ⟨q, 6, none⟩ = some (.int .i64 first)) (h7 : w.cell? ⟨q, 7, none⟩ = some (.int .i64 last)) (hlt : q < w.heap.size) :
    Calls Try.prog 101 #[.slice a n c, .func (.func 102) #[] #[.pointer (some ⟨q, 0, none⟩)]] w fun e w' => e = .returned (.bool (lateB first last L)) ∧ Below w.heap.size w w' := by
  have HI := Lib.hid (c_dindex a n c q L first last w hn hm hr h6 h7 hlt)
  unfold IdxPost at HI
  clear hn hr h6 h7
  generalize lateB first last L = b at *
  go_enter Try.func101, Try.ntmps101
  go_wp2_with fail
  refine HI.out.mono ?_
  rintro e w1 ⟨r, rfl, hr, hb⟩
  have HR := Lib.hid hr
  clear hr
  go_wp2_with fail
  go_ret
  exact ⟨ret_b HR.out, hb⟩

set_option maxRecDepth 100000 in
set_option maxHeartbeats 3200000 in
theorem c_popen (p : Pol) (a : Option Addr) (n c : Nat) (L : List (Int × Int)) (w : World) (hp : PolOk w p) (hn : L.length = n) (hm : n ≤ 4096) (hr : Rd w a (cellsW L)) :
    Calls Try.prog 77 #[p.v, .slice a n c] w fun e w' => e = .returned (.tuple #[.int .i64 (openN p L), .int .i64 (openE p L)]) ∧ Below w.heap.size w w' := by
  have HM := fun w h => c_pmayP p w h
  have HRt := Lib.hid (fun w hr => c_dright a n c L w hn (by omega) hr)
  have HC := Lib.hid (fun q w hr h6 h7 hlt => c_dcontains a n c q L p.first p.last w hn (by omega) hr h6 h7 hlt)
  have HP := Lib.hid hp
  have HR := Lib.hid hr
  have HN := Lib.hid hn
  unfold Pol.v polV at HM ⊢
  clear hp hr hn
  obtain ⟨E, hE⟩ : ∃ E, E = openE p L := ⟨_, rfl⟩
  obtain ⟨N, hNN⟩ : ∃ N, N = openN p L := ⟨_, rfl⟩
  rw [← hE, ← hNN]
  unfold openN at hNN
  rw [← hE] at hNN
  unfold openE at hE
  have B0 := Lib.hid (Blk.new w 57 #[.string p.i, .string p.f, .string p.t, .int .i64 p.sum, .int .i64 p.own, .slice p.ca p.cn p.cc, .int .i64 p.first, .int .i64 p.last, .int .i64 p.share])
  have HB0 := Lib.hid ((Below.refl w.heap.size w).alloc (Nat.le_refl _) (.cells #[.string p.i, .string p.f, .string p.t, .int .i64 p.sum, .int .i64 p.own, .slice p.ca p.cn p.cc, .int .i64 p.first, .int .i64 p.last, .int .i64 p.share] 57))
  cases hmay : p.may
  · rw [hmay] at HM
    obtain rfl : E = 1 := by rw [hE, if_pos (.inl hmay)]
    obtain rfl : N = 0 := by rw [hNN, if_neg (by decide)]
    have HM := Lib.hid HM
    clear hE hNN hmay
    go_enter Try.func77, Try.ntmps77
    go_wp2_with fail
    refine (HM.out _ (HP.out.below HB0.out)).mono ?_
    rintro e w1 ⟨rfl, hb1⟩
    have HB1 := Lib.hid (HB0.out.trans (hb1.mono (by simp)))
    clear hb1
    go_wp2_with fail
    go_ret2
    exact ⟨rfl, HB1.out⟩
  · rw [hmay] at HM
    have HM := Lib.hid HM
    cases hdr : drawsB L
    · rw [hdr] at HRt
      obtain rfl : E = 1 := by rw [hE, if_pos (.inr hdr)]
      obtain rfl : N = 0 := by rw [hNN, if_neg (by decide)]
      clear hE hNN hmay hdr
      go_enter Try.func77, Try.ntmps77
      go_wp2_with fail
      refine (HM.out _ (HP.out.below HB0.out)).mono ?_
      rintro e w1 ⟨rfl, hb1⟩
      have HB1 := Lib.hid (HB0.out.trans (hb1.mono (by simp)))
      clear hb1
      go_wp2_with fail
      refine (HRt.out _ (HR.out.below HB1.out)).mono ?_
      rintro e w2 ⟨rfl, hb2⟩
      have HB2 := Lib.hid (HB1.out.trans (hb2.mono HB1.out.size))
      clear hb2
      go_wp2_with fail
      go_ret2
      exact ⟨rfl, HB2.out⟩
    · rw [hdr] at HRt
      rw [if_neg (by rw [hmay, hdr]; simp)] at hE
      have HPos := Lib.hid (draws_pos hdr)
      have hfc := mayP_facts (show mayP p.i p.f p.t p.sum p.own p.z p.first p.last p.share = true from hmay)
      obtain ⟨_, ⟨s0, s1⟩, _⟩ := hfc
      clear hmay hdr
      cases hlt : lateB p.first p.last L
      · rw [hlt] at HC
        rw [hlt, if_neg (by decide)] at hE
        have HE := Lib.hid hE
        have HNN := Lib.hid hNN
        clear hE hNN hlt
        go_enter Try.func77, Try.ntmps77
        go_wp2_with fail
        refine (HM.out _ (HP.out.below HB0.out)).mono ?_
        rintro e w1 ⟨rfl, hb1⟩
        have HB1 := Lib.hid (HB0.out.trans (hb1.mono (by simp)))
        have B1 := Lib.hid (B0.out.below hb1 B0.out.lt)
        clear hb1
        go_wp2_with fail
        refine (HRt.out _ (HR.out.below HB1.out)).mono ?_
        rintro e w2 ⟨rfl, hb2⟩
        have HB2 := Lib.hid (HB1.out.trans (hb2.mono HB1.out.size))
        have B2 := Lib.hid (B1.out.below hb2 B1.out.lt)
        clear hb2
        go_wp2_with fail
        refine (HC.out _ _ (HR.out.below HB2.out) (B2.out.cell 6 rfl) (B2.out.cell 7 rfl) B2.out.lt).mono ?_
        rintro e w3 ⟨rfl, hb3⟩
        have HB3 := Lib.hid (HB2.out.trans (hb3.mono HB2.out.size))
        have B3 := Lib.hid (B2.out.below hb3 B2.out.lt)
        have HR3 := Lib.hid (HR.out.below HB3.out)
        have k3 := B3.out.cell 3 rfl
        clear hb3
        go_wp2_with fail
        clear k3
        go_loopw [6, 24] (fun y x wr => ∃ (k : Nat) (u : Int), y = .int .i64 u ∧ x = .int .i64 k ∧ k ≤ n ∧ 0 ≤ u ∧ u ≤ p.sum ∧ Hid (u = p.sum - sumD (L.take k)) ∧ Hid (Below w3.heap.size w3 wr)) (fun _ x _ => n - (intOf x).toNat)
        case atStart => exact ⟨0, p.sum, rfl, rfl, by omega, by omega, by omega, by show _ = _; simp [sumD], Below.refl _ _⟩
        case round =>
          obtain ⟨k, u, rfl, rfl, hk, u0, u1, hu, hB⟩ := hrel
          by_cases hlt2 : k < n
          · have hkL : k < L.length := by rw [HN.out]; exact hlt2
            obtain ⟨b, o, rfl, hb, c0, c1, hall⟩ := draw_at (HR3.out.below hB.out) k hkL
            have hts := sumD_take_succ L k hkL
            obtain ⟨d0, d1, _⟩ := HPos.out _ (List.getElem_mem hkL)
            have hle := sumD_le (fun x hx => by have := HPos.out x hx; omega) (L := L) (k + 1)
            have HS := Lib.hid (show u - L[k].2 = p.sum - sumD (L.take (k + 1)) by rw [hts, hu.out]; omega)
            have hz := hB.out.size
            have HLe := Lib.hid hle
            clear hts hall hle
            generalize L[k] = d at *
            obtain ⟨dy, am⟩ := d
            simp only at c0 c1 d0 d1 HS
            have e1 : IntKind.i64.wrap (u - am) = u - am := IntWalk.i64_in _ (by omega)
            by_cases hneg : u - am < 0
            · have hsh : E = 10 := by rw [HE.out, if_pos (by have := HS.out; have := HLe.out; omega)]
              have hnz : N = 0 := by rw [HNN.out, if_neg (by rw [hsh]; decide)]
              have HQ := Lib.hid (And.intro hsh hnz)
              clear hsh hnz
              go_wp2
              go_ret2
              rw [HQ.out.1, HQ.out.2]
              exact ⟨rfl, (HB3.out.trans (hB.out.mono HB3.out.size)).alloc (by have := HB3.out.size; omega) _⟩
            · go_wp2
              go_roundw
              case rel => exact ⟨k + 1, u - am, rfl, by go_num, by omega, by omega, by omega, HS.out, hB.out.alloc hz _⟩
              case measure => simp [intOf]; omega
          · obtain rfl : k = n := by omega
            have h1 := hu.out
            rw [List.take_of_length_le (by rw [HN.out]; exact Nat.le_refl _)] at h1
            have hE0 : E = 0 := by rw [HE.out, if_neg (by omega)]
            have hN0 : N = u := by rw [HNN.out, if_pos hE0, h1]
            have HQ := Lib.hid (And.intro hE0 hN0)
            clear h1 hu hE0 hN0
            go_wp2
            go_ret2
            rw [HQ.out.1, HQ.out.2]
            exact ⟨rfl, HB3.out.trans (hB.out.mono HB3.out.size)⟩
      · rw [hlt] at HC
        rw [hlt, if_pos rfl] at hE
        subst hE
        obtain rfl : N = 0 := by rw [hNN, if_neg (by decide)]
        clear hNN hlt
        go_enter Try.func77, Try.ntmps77
        go_wp2_with fail
        refine (HM.out _ (HP.out.below HB0.out)).mono ?_
        rintro e w1 ⟨rfl, hb1⟩
        have HB1 := Lib.hid (HB0.out.trans (hb1.mono (by simp)))
        have B1 := Lib.hid (B0.out.below hb1 B0.out.lt)
        clear hb1
        go_wp2_with fail
        refine (HRt.out _ (HR.out.below HB1.out)).mono ?_
        rintro e w2 ⟨rfl, hb2⟩
        have HB2 := Lib.hid (HB1.out.trans (hb2.mono HB1.out.size))
        have B2 := Lib.hid (B1.out.below hb2 B1.out.lt)
        clear hb2
        go_wp2_with fail
        refine (HC.out _ _ (HR.out.below HB2.out) (B2.out.cell 6 rfl) (B2.out.cell 7 rfl) B2.out.lt).mono ?_
        rintro e w3 ⟨rfl, hb3⟩
        have HB3 := Lib.hid (HB2.out.trans (hb3.mono HB2.out.size))
        clear hb3
        go_wp2_with fail
        go_ret2
        exact ⟨rfl, HB3.out⟩

end Go.Proofs.Ytbcmaaoddnaoiaa
